/-
  What stands of two ends that talk, whatever is lost, comes again or out of order; and all comes in the end.
-/
import Derived.Test.YtgabonacpoimfaaTkB
namespace Go.Proofs.Ytgabonacpoimfaa
open Go.RowKit
set_option linter.unusedVariables false
set_option linter.unusedSimpArgs false

def SnOk (ep : Int) (x : Tk) (s : Sn) : Prop := (s.first = true → Dg ep x.a x.b x.toB s.g) ∧ (s.first = false → Dg ep x.b x.a x.toA s.g)
structure TkOk (ep : Int) (x : Tk) : Prop where
  oka : x.a.ok
  okb : x.b.ok
  epa : x.a.ep = ep
  epb : x.b.ep = ep
  ab : Half x.a x.b x.toB x.atB
  ba : Half x.b x.a x.toA x.atA
  pool : ∀ s ∈ x.pool, SnOk ep x s
/-- How great it is. -/
structure TkBd (k : Nat) (x : Tk) : Prop where
  ga : x.a.gv ≤ k
  gb : x.b.gv ≤ k
  ta : x.a.tk ≤ k
  tb : x.b.tk ≤ k
  pool : x.pool.length ≤ 32 * k
def Tk.new (ep : Int) : Tk := ⟨En.new ep, En.new ep, [], [], [], [], []⟩
theorem TkOk.new (ep : Int) : TkOk ep (Tk.new ep) := ⟨En.new_ok ep, En.new_ok ep, rfl, rfl, Half.new ep, Half.new ep, fun s h => by cases h⟩
theorem TkBd.new (ep : Int) : TkBd 0 (Tk.new ep) := ⟨Nat.le_refl _, Nat.le_refl _, Nat.le_refl _, Nat.le_refl _, Nat.le_refl _⟩
section
variable {ep : Int} {x : Tk}
theorem TkBd.more {k m : Nat} (h : TkBd k x) (hm : k ≤ m) : TkBd m x := ⟨Nat.le_trans h.ga hm, Nat.le_trans h.gb hm, Nat.le_trans h.ta hm, Nat.le_trans h.tb hm, Nat.le_trans h.pool (by omega)⟩
theorem TkOk.sendA (h : TkOk ep x) (t : ByteArray) (hs : (sendE x.a t).2 = 0) : TkOk ep { x with a := (sendE x.a t).1, toB := x.toB ++ [t] } := by
  obtain ⟨g1, g2, g3⟩ := sendE_gt x.a t
  refine ⟨sendE_ok h.oka t, h.okb, (sendE_ep x.a t).trans h.epa, h.epb, h.ab.send h.oka t hs, h.ba.other rfl rfl g1 g2, fun s hm => ?_⟩
  obtain ⟨p1, p2⟩ := h.pool s hm
  exact ⟨fun e => (p1 e).send (by simp only; omega) (Nat.le_refl _), fun e => (p2 e).more (Nat.le_refl _) (by simp only; omega)⟩
theorem TkOk.sendB (h : TkOk ep x) (t : ByteArray) (hs : (sendE x.b t).2 = 0) : TkOk ep { x with b := (sendE x.b t).1, toA := x.toA ++ [t] } := by
  obtain ⟨g1, g2, g3⟩ := sendE_gt x.b t
  refine ⟨h.oka, sendE_ok h.okb t, h.epa, (sendE_ep x.b t).trans h.epb, h.ab.other rfl rfl g1 g2, h.ba.send h.okb t hs, fun s hm => ?_⟩
  obtain ⟨p1, p2⟩ := h.pool s hm
  exact ⟨fun e => (p1 e).more (Nat.le_refl _) (by simp only; omega), fun e => (p2 e).send (by simp only; omega) (Nat.le_refl _)⟩
theorem TkBd.sendA {k : Nat} (h : TkBd k x) (t : ByteArray) (l : List ByteArray) : TkBd (k + 1) { x with a := (sendE x.a t).1, toB := l } :=
  ⟨by have := (sendE_gv x.a t).1; have := h.ga; simp only; omega, Nat.le_trans h.gb (by omega), by have := sendE_tk x.a t; have := h.ta; simp only; omega, Nat.le_trans h.tb (by omega), Nat.le_trans h.pool (by omega)⟩
theorem TkBd.sendB {k : Nat} (h : TkBd k x) (t : ByteArray) (l : List ByteArray) : TkBd (k + 1) { x with b := (sendE x.b t).1, toA := l } :=
  ⟨Nat.le_trans h.ga (by omega), by have := (sendE_gv x.b t).1; have := h.gb; simp only; omega, Nat.le_trans h.ta (by omega), by have := sendE_tk x.b t; have := h.tb; simp only; omega, Nat.le_trans h.pool (by omega)⟩
theorem sndsOf_mem {e : En} {f : Bool} {s : Sn} (h : s ∈ sndsOf e f) : s.g ∈ outG e ∧ s.first = f := by
  unfold sndsOf at h
  obtain ⟨g, hg, rfl⟩ := List.mem_map.1 h
  exact ⟨hg, rfl⟩
theorem TkOk.sends (h : TkOk ep x) (f : Bool) : TkOk ep (sendsT x f).1 := by
  unfold sendsT
  cases f with
  | true =>
    refine ⟨outE_ok h.oka, h.okb, h.epa, h.epb, h.ab.other rfl rfl rfl rfl, h.ba.other rfl rfl rfl rfl, fun s hm => ?_⟩
    rcases List.mem_append.1 hm with hm | hm
    · obtain ⟨p1, p2⟩ := h.pool s hm
      exact ⟨fun e => (p1 e).more (Nat.le_refl _) (Nat.le_refl _), fun e => (p2 e).more (Nat.le_refl _) (Nat.le_refl _)⟩
    · obtain ⟨m1, m2⟩ := sndsOf_mem hm
      exact ⟨fun e => (outG_dg h.ab h.oka h.epa s.g m1).more (Nat.le_refl _) (Nat.le_refl _), fun e => by rw [m2] at e; cases e⟩
  | false =>
    refine ⟨h.oka, outE_ok h.okb, h.epa, h.epb, h.ab.other rfl rfl rfl rfl, h.ba.other rfl rfl rfl rfl, fun s hm => ?_⟩
    rcases List.mem_append.1 hm with hm | hm
    · obtain ⟨p1, p2⟩ := h.pool s hm
      exact ⟨fun e => (p1 e).more (Nat.le_refl _) (Nat.le_refl _), fun e => (p2 e).more (Nat.le_refl _) (Nat.le_refl _)⟩
    · obtain ⟨m1, m2⟩ := sndsOf_mem hm
      exact ⟨(fun e => by rw [m2] at e; cases e), fun e => (outG_dg h.ba h.okb h.epb s.g m1).more (Nat.le_refl _) (Nat.le_refl _)⟩
theorem sndsOf_len {e : En} (h : e.ok) (f : Bool) : (sndsOf e f).length ≤ 32 := by unfold sndsOf; rw [List.length_map]; exact outG_len h.most
theorem TkBd.sends {k : Nat} (hb : TkBd k x) (h : TkOk ep x) (f : Bool) : TkBd (k + 1) (sendsT x f).1 := by
  have h1 := sndsOf_len h.oka true
  have h2 := sndsOf_len h.okb false
  have h3 := hb.pool
  unfold sendsT
  cases f with
  | true => exact ⟨Nat.le_trans hb.ga (by omega), Nat.le_trans hb.gb (by omega), Nat.le_trans hb.ta (by omega), Nat.le_trans hb.tb (by omega), by simp only [if_true, List.length_append]; omega⟩
  | false => exact ⟨Nat.le_trans hb.ga (by omega), Nat.le_trans hb.gb (by omega), Nat.le_trans hb.ta (by omega), Nat.le_trans hb.tb (by omega), by simp only [Bool.false_eq_true, if_false, List.length_append]; omega⟩
theorem TkOk.comesA (h : TkOk ep x) (s : Sn) (hs : SnOk ep x s) (hf : s.first = true) : Came x.a x.b x.toB x.atB s.g ∧ TkOk ep { x with b := (takeE x.b s.g).1, atB := x.atB ++ (takeE x.b s.g).2.1 } := by
  have hd := hs.1 hf
  have C := hd.comes h.ab h.ba h.epb h.okb
  have hr := hd.right h.ab h.ba h.epb
  obtain ⟨o1, o2⟩ := takeE_op hr
  refine ⟨C, h.oka, takeE_ok h.okb _, h.epa, (takeE_ep _ _).trans h.epb, C.half, (h.ba.acked h.okb s.g hd.ak hd.a0).other o2 o1 rfl rfl, fun s' hm => ?_⟩
  obtain ⟨p1, p2⟩ := h.pool s' hm
  exact ⟨fun e => (p1 e).more (Nat.le_refl _) C.gt, fun e => (p2 e).more C.gt (Nat.le_refl _)⟩
theorem TkOk.comesB (h : TkOk ep x) (s : Sn) (hs : SnOk ep x s) (hf : s.first = false) : Came x.b x.a x.toA x.atA s.g ∧ TkOk ep { x with a := (takeE x.a s.g).1, atA := x.atA ++ (takeE x.a s.g).2.1 } := by
  have hd := hs.2 hf
  have C := hd.comes h.ba h.ab h.epa h.oka
  have hr := hd.right h.ba h.ab h.epa
  obtain ⟨o1, o2⟩ := takeE_op hr
  refine ⟨C, takeE_ok h.oka _, h.okb, (takeE_ep _ _).trans h.epa, h.epb, (h.ab.acked h.oka s.g hd.ak hd.a0).other o2 o1 rfl rfl, C.half, fun s' hm => ?_⟩
  obtain ⟨p1, p2⟩ := h.pool s' hm
  exact ⟨fun e => (p1 e).more C.gt (Nat.le_refl _), fun e => (p2 e).more (Nat.le_refl _) C.gt⟩
theorem TkOk.comes (h : TkOk ep x) (s : Sn) (hs : SnOk ep x s) : (comesT x s).2 = true ∧ TkOk ep (comesT x s).1 := by
  unfold comesT
  cases hf : s.first with
  | true =>
    obtain ⟨C, ho⟩ := h.comesA s hs hf
    exact ⟨by simp only [if_true]; rw [C.err]; rfl, ho⟩
  | false =>
    obtain ⟨C, ho⟩ := h.comesB s hs hf
    exact ⟨by simp only [Bool.false_eq_true, if_false]; rw [C.err]; rfl, ho⟩
theorem TkBd.comes {k : Nat} (h : TkBd k x) (s : Sn) : TkBd (k + 1) (comesT x s).1 := by
  have h1 := takeE_gv x.a s.g
  have h2 := takeE_gv x.b s.g
  have h3 := takeE_tk x.a s.g
  have h4 := takeE_tk x.b s.g
  obtain ⟨a, b, c, d, e⟩ := h
  unfold comesT
  split
  · exact ⟨by simp only; omega, by simp only; omega, by simp only; omega, by simp only; omega, by simp only; omega⟩
  · exact ⟨by simp only; omega, by simp only; omega, by simp only; omega, by simp only; omega, by simp only; omega⟩
theorem TkOk.lens (h : TkOk ep x) {k : Nat} (hb : TkBd k x) : x.toA.length ≤ k ∧ x.toB.length ≤ k ∧ x.atA.length ≤ x.toA.length ∧ x.atB.length ≤ x.toB.length ∧ x.atA = x.toA.take x.atA.length ∧ x.atB = x.toB.take x.atB.length := by
  have h1 := h.ab.gv
  have h2 := h.ba.gv
  have h3 := h.ab.came
  have h4 := h.ba.came
  have h5 := h.ab.gt
  have h6 := h.ba.gt
  have l1 : x.atB.length = x.b.gt := by rw [h3, List.length_take]; omega
  have l2 : x.atA.length = x.a.gt := by rw [h4, List.length_take]; omega
  exact ⟨by have := hb.gb; omega, by have := hb.ga; omega, by omega, by omega, by rw [l2]; exact h4, by rw [l1]; exact h3⟩
end
/-- What a receiver is behind the first datagrams that a sender sent. -/
structure Got (s r r' : En) (i : Nat) : Prop where
  gt : s.gv - s.op.length + min i s.op.length ≤ r'.gt
  op : 0 < i → r'.op.length ≤ r'.gv - s.gt
  less : r'.op.length ≤ r.op.length
  ow : r'.ow = (r.ow || (decide (0 < i) && decide (0 < s.op.length)))
theorem Got.start {s r : En} {tx came : List ByteArray} (h : Half s r tx came) (hok : s.ok) : Got s r r 0 :=
  ⟨by have := h.ack; have := h.gv; have := hok.op; omega, fun h => absurd h (by omega), Nat.le_refl _, by simp⟩
theorem gramsF_get (e : En) : ∀ (l : List ByteArray) (i j : Nat) (g : Gr), (gramsF e i l)[j]? = some g → ∃ t, l[j]? = some t ∧ g = ⟨0, false, e.ep, ((e.gv - e.op.length + 1 + (i + j) : Nat) : Int), (e.gt : Int), t⟩
  | [], i, j, g, h => by simp [gramsF] at h
  | s :: l, i, 0, g, h => by
    simp only [gramsF, List.getElem?_cons_zero, Option.some.injEq] at h
    exact ⟨s, rfl, by rw [← h]; simp⟩
  | s :: l, i, j + 1, g, h => by
    simp only [gramsF, List.getElem?_cons_succ] at h
    obtain ⟨t, h1, h2⟩ := gramsF_get e l (i + 1) j g h
    exact ⟨t, by simpa using h1, by rw [h2]; simp; omega⟩
/-- Which datagram the i-th is. -/
theorem outG_get {s : En} (hok : s.ok) {i : Nat} {g : Gr} (h : (outG s)[i]? = some g) : g.ak = (s.gt : Int) ∧ ((0 < s.op.length ∧ i < s.op.length ∧ g.sq = ((s.gv - s.op.length + i + 1 : Nat) : Int)) ∨ (s.op.length = 0 ∧ g.sq = 0)) := by
  have ho := hok.op
  unfold outG at h
  split at h
  · rename_i h0
    obtain ⟨t, ht, rfl⟩ := gramsF_get s s.op 0 i g h
    have hl := (List.getElem?_eq_some_iff.1 ht).1
    exact ⟨rfl, .inl ⟨h0, hl, by simp only; congr 1; omega⟩⟩
  · rename_i h0
    split at h
    · cases i with
      | zero =>
        simp at h
        subst h
        exact ⟨rfl, .inr ⟨by omega, rfl⟩⟩
      | succ i => simp at h
    · simp at h
theorem takeE_oplen {r : En} {g : Gr} (hr : rightE r g = 0) : (takeE r g).1.op.length = min r.op.length (r.gv - g.ak.toNat) := by rw [(takeE_op hr).1, ackE_len]
theorem Got.step {ep : Int} {s r r' : En} {tx tx2 came came2 : List ByteArray} {i : Nat} {g : Gr} (h : Got s r r' i) (hok : s.ok) (hg : (outG s)[i]? = some g) (hC : Came s r' tx came g) (hr : rightE r' g = 0) : Got s r (takeE r' g).1 (i + 1) := by
  obtain ⟨e1, e2⟩ := outG_get hok hg
  have ho := takeE_oplen hr
  have hv := takeE_gv r' g
  have h1 := h.gt
  have hm := hC.gt
  refine ⟨?_, fun _ => ?_, ?_, ?_⟩
  · rcases e2 with ⟨a1, a2, a3⟩ | ⟨a1, a2⟩
    · have := hC.next _ a3 (by omega)
      omega
    · omega
  · rw [ho, e1, hv]; omega
  · rw [ho]; have := h.less; omega
  · rw [hC.ow, h.ow]
    rcases e2 with ⟨a1, a2, a3⟩ | ⟨a1, a2⟩
    · have : decide (g.sq ≠ 0) = true := by simp; omega
      rw [this]
      simp [a1]
    · rw [a2, a1]; simp
/-- The rounds in which all comes. -/
def Rnd : Nat → Tk → Prop
  | 0, _ => True
  | 1, x => x.b.gt = x.toB.length ∧ x.a.ow = false ∧ (0 < x.a.op.length → x.b.ow = true)
  | 2, x => x.b.gt = x.toB.length ∧ x.a.gt = x.toA.length ∧ x.a.op.length = 0 ∧ x.b.ow = false ∧ (0 < x.b.op.length → x.a.ow = true)
  | _, x => x.b.gt = x.toB.length ∧ x.a.gt = x.toA.length ∧ x.a.op.length = 0 ∧ x.b.op.length = 0 ∧ x.a.ow = false ∧ x.b.ow = false
theorem outG_full {s : En} (h : 0 < s.op.length) : (outG s).length = s.op.length := by unfold outG; rw [if_pos h, gramsF_len]
theorem outG_none {s : En} (h : (outG s).length = 0) : s.op.length = 0 ∧ s.ow = false := by
  unfold outG at h
  split at h
  · rw [gramsF_len] at h; omega
  · rename_i h0
    split at h
    · simp at h
    · rename_i h1
      exact ⟨by omega, by simpa using h1⟩
/-- A round in which the first end sends, from x0, and all comes. -/
theorem Rnd.first {ep : Int} {r : Nat} {x0 x : Tk} (hr : Rnd r x0) (he : r % 2 = 0) (h0 : TkOk ep x0) (h : TkOk ep x) (ha : x.a = outE x0.a) (h1 : x.toA = x0.toA) (h2 : x.toB = x0.toB) (hg : Got x0.a x0.b x.b (outG x0.a).length) (hz : (outG x0.a).length = 0 → x.b = x0.b) : Rnd (r + 1) x := by
  have g1 := h0.ab.gv
  have g2 := h0.oka.op
  have g3 := h.ab.gt
  have g4 := h.ba.gv
  have G1 := hg.gt
  have G2 := hg.op
  have G3 := hg.ow
  have G4 := hg.less
  have hfull : x.b.gt = x.toB.length := by
    by_cases hp : 0 < x0.a.op.length
    · rw [outG_full hp] at G1; rw [h2]; rw [h2] at g3; omega
    · rw [h2]; rw [h2] at g3; omega
  have haop : x.a.op.length = x0.a.op.length := by rw [ha]; rfl
  have haow : x.a.ow = false := by rw [ha]; rfl
  have hagt : x.a.gt = x0.a.gt := by rw [ha]; rfl
  match r, hr, he with
  | 0, _, _ =>
    refine ⟨hfull, haow, fun hp => ?_⟩
    rw [haop] at hp
    rw [G3, outG_full hp]
    simp [hp]
  | 2, hr, _ =>
    obtain ⟨r1, r2, r3, r4, r5⟩ := hr
    refine ⟨hfull, by rw [hagt, h1]; exact r2, by omega, ?_, haow, by rw [G3, r4, r3]; simp⟩
    by_cases hi : 0 < (outG x0.a).length
    · have := G2 hi
      rw [g4, h1] at this; omega
    · have hn := outG_none (Nat.eq_zero_of_not_pos hi)
      by_cases hb : 0 < x0.b.op.length
      · have := r5 hb; rw [hn.2] at this; cases this
      · omega
  | r + 4, hr, he =>
    obtain ⟨r1, r2, r3, r4, r5, r6⟩ := (show x0.b.gt = x0.toB.length ∧ x0.a.gt = x0.toA.length ∧ x0.a.op.length = 0 ∧ x0.b.op.length = 0 ∧ x0.a.ow = false ∧ x0.b.ow = false from hr)
    show x.b.gt = x.toB.length ∧ x.a.gt = x.toA.length ∧ x.a.op.length = 0 ∧ x.b.op.length = 0 ∧ x.a.ow = false ∧ x.b.ow = false
    have hz' : (outG x0.a).length = 0 := by unfold outG; rw [if_neg (by omega), r5]; rfl
    have hb := hz hz'
    exact ⟨hfull, by rw [hagt, h1]; exact r2, by omega, by rw [hb]; exact r4, haow, by rw [hb]; exact r6⟩
theorem Rnd.second {ep : Int} {r : Nat} {x0 x : Tk} (hr : Rnd r x0) (he : r % 2 = 1) (h0 : TkOk ep x0) (h : TkOk ep x) (hb : x.b = outE x0.b) (h1 : x.toA = x0.toA) (h2 : x.toB = x0.toB) (hg : Got x0.b x0.a x.a (outG x0.b).length) (hz : (outG x0.b).length = 0 → x.a = x0.a) : Rnd (r + 1) x := by
  have g1 := h0.ba.gv
  have g2 := h0.okb.op
  have g3 := h.ba.gt
  have g4 := h.ab.gv
  have G1 := hg.gt
  have G2 := hg.op
  have G3 := hg.ow
  have G4 := hg.less
  have hfull : x.a.gt = x.toA.length := by
    by_cases hp : 0 < x0.b.op.length
    · rw [outG_full hp] at G1; rw [h1]; rw [h1] at g3; omega
    · rw [h1]; rw [h1] at g3; omega
  have hbop : x.b.op.length = x0.b.op.length := by rw [hb]; rfl
  have hbow : x.b.ow = false := by rw [hb]; rfl
  have hbgt : x.b.gt = x0.b.gt := by rw [hb]; rfl
  match r, hr, he with
  | 1, hr, _ =>
    obtain ⟨r1, r2, r3⟩ := hr
    refine ⟨by rw [hbgt, h2]; exact r1, hfull, ?_, hbow, fun hp => ?_⟩
    · by_cases hi : 0 < (outG x0.b).length
      · have := G2 hi
        rw [g4, h2] at this; omega
      · have hn := outG_none (Nat.eq_zero_of_not_pos hi)
        by_cases ha : 0 < x0.a.op.length
        · have := r3 ha; rw [hn.2] at this; cases this
        · omega
    · rw [hbop] at hp
      rw [G3, outG_full hp]
      simp [hp]
  | r + 3, hr, he =>
    obtain ⟨r1, r2, r3, r4, r5, r6⟩ := (show x0.b.gt = x0.toB.length ∧ x0.a.gt = x0.toA.length ∧ x0.a.op.length = 0 ∧ x0.b.op.length = 0 ∧ x0.a.ow = false ∧ x0.b.ow = false from hr)
    show x.b.gt = x.toB.length ∧ x.a.gt = x.toA.length ∧ x.a.op.length = 0 ∧ x.b.op.length = 0 ∧ x.a.ow = false ∧ x.b.ow = false
    have hz' : (outG x0.b).length = 0 := by unfold outG; rw [if_neg (by omega), r6]; rfl
    have ha := hz hz'
    exact ⟨by rw [hbgt, h2]; exact r1, hfull, by rw [ha]; exact r3, by omega, by rw [ha]; exact r5, hbow⟩
end Go.Proofs.Ytgabonacpoimfaa
