/-
  Two ends that talk, in plain words: what has come to one is the beginning of what the other was given.
-/
import Derived.Test.YtgabonacpoimfaaCoOk
namespace Go.Proofs.Ytgabonacpoimfaa
open Go.RowKit
set_option linter.unusedVariables false
set_option linter.unusedSimpArgs false

/-- What is drained of a map whose texts stand where they were given. -/
theorem drain_tx (tx : List ByteArray) (l : List (Nat × ByteArray)) (g : Nat) (h : ∀ x ∈ l, g < x.1 ∧ tx[x.1 - 1]? = some x.2) (hg : g ≤ tx.length) :
    tx.take g ++ (drain l g).1 = tx.take (drain l g).2.2 ∧ (drain l g).2.2 ≤ tx.length ∧ g ≤ (drain l g).2.2 := by
  refine drain_ind (fun l g r => (∀ x ∈ l, g < x.1 ∧ tx[x.1 - 1]? = some x.2) → g ≤ tx.length → tx.take g ++ r.1 = tx.take r.2.2 ∧ r.2.2 ≤ tx.length ∧ g ≤ r.2.2) ?_ ?_ l.length l g (Nat.le_refl _) h hg
  · intro l g _ _ hg
    exact ⟨by simp, hg, Nat.le_refl _⟩
  · intro l g s r hl ih h hg
    have hm := look_mem hl
    have h2 := (h _ hm).2
    simp only [Nat.add_sub_cancel] at h2
    have hlt := (List.getElem?_eq_some_iff.1 h2).1
    obtain ⟨i1, i2, i3⟩ := ih (fun x hx => by
      have h3 := List.mem_filter.1 hx
      exact ⟨by simpa using h3.2, (h x h3.1).2⟩) hlt
    refine ⟨?_, i2, by simp only; omega⟩
    rw [← i1]
    have : tx.take (g + 1) = tx.take g ++ [s] := by
      rw [List.take_add_one, h2]; rfl
    rw [this]
    simp
/-- What was given to one end, and what has come to the other one. -/
structure Half (s r : En) (tx came : List ByteArray) : Prop where
  gv : s.gv = tx.length
  op : s.op = tx.drop (tx.length - s.op.length)
  came : came = tx.take r.gt
  gt : r.gt ≤ tx.length
  ack : tx.length ≤ s.op.length + r.gt
  ea : ∀ x ∈ r.ea, tx[x.1 - 1]? = some x.2
  size : ∀ x ∈ tx, x.size ≤ 16384
/-- A datagram of the session, from s to r. -/
structure Dg (ep : Int) (s r : En) (tx : List ByteArray) (g : Gr) : Prop where
  ep : g.ep = ep
  sq : (g.sq = 0 ∧ g.bd.size = 0) ∨ ∃ k : Nat, g.sq = ((k + 1 : Nat) : Int) ∧ tx[k]? = some g.bd ∧ k + 1 ≤ r.gt + 32
  a0 : 0 ≤ g.ak
  ak : g.ak ≤ (s.gt : Int)
theorem Half.new (ep : Int) : Half (En.new ep) (En.new ep) [] [] := ⟨rfl, rfl, rfl, Nat.le_refl _, Nat.le_refl _, (fun x h => by cases h), (fun x h => by cases h)⟩
theorem getElem?_append_some {α : Type} {l l' : List α} {i : Nat} {x : α} (h : l[i]? = some x) : (l ++ l')[i]? = some x := by
  rw [List.getElem?_append_left (List.getElem?_eq_some_iff.1 h).1]; exact h
/-- A text is given. -/
theorem Half.send {s r : En} {tx came : List ByteArray} (h : Half s r tx came) (hok : s.ok) (t : ByteArray) (hs : (sendE s t).2 = 0) : Half (sendE s t).1 r (tx ++ [t]) came := by
  unfold sendE at hs ⊢
  split at hs
  · cases hs
  · rename_i h1
    split at hs
    · cases hs
    · rename_i h2
      rw [if_neg h1, if_neg h2]
      have ho := hok.op
      have hg := h.gv
      refine ⟨by simp only [List.length_append, List.length_cons, List.length_nil]; omega, ?_, ?_, ?_, ?_, fun x hx => getElem?_append_some (h.ea x hx), fun x hx => ?_⟩
      · simp only [List.length_append, List.length_cons, List.length_nil]
        rw [show tx.length + (0 + 1) - (s.op.length + (0 + 1)) = tx.length - s.op.length by omega, List.drop_append, ← h.op]
        rw [show tx.length - s.op.length - tx.length = 0 by omega]
        rfl
      · rw [h.came, List.take_append_of_le_length h.gt]
      · rw [List.length_append]; have := h.gt; omega
      · simp only [List.length_append, List.length_cons, List.length_nil]; have := h.ack; omega
      · rcases List.mem_append.1 hx with hx | hx
        · exact h.size x hx
        · simp at hx; subst hx; omega
theorem send_no {s : En} {t : ByteArray} (hs : (sendE s t).2 ≠ 0) : (sendE s t).1 = s := by
  unfold sendE at hs ⊢
  split
  · rfl
  · rename_i h1
    rw [if_neg h1] at hs
    split
    · rfl
    · rename_i h2
      rw [if_neg h2] at hs
      exact absurd rfl hs
theorem sendE_gt (e : En) (t : ByteArray) : (sendE e t).1.gt = e.gt ∧ (sendE e t).1.ea = e.ea ∧ (sendE e t).1.ow = e.ow := by unfold sendE; split; simp; split <;> simp
/-- The receiving side alone counts how it reads, the sending one what it keeps. -/
theorem Half.other {s s' r r' : En} {tx came : List ByteArray} (h : Half s r tx came) (h1 : s'.gv = s.gv) (h2 : s'.op = s.op) (h3 : r'.gt = r.gt) (h4 : r'.ea = r.ea) : Half s' r' tx came :=
  ⟨by rw [h1]; exact h.gv, by rw [h2]; exact h.op, by rw [h3]; exact h.came, by rw [h3]; exact h.gt, by rw [h2, h3]; exact h.ack, by rw [h4]; exact h.ea, h.size⟩
theorem Dg.send {ep : Int} {s r : En} {tx : List ByteArray} {g : Gr} (h : Dg ep s r tx g) {s' r' : En} {more : List ByteArray} (h1 : s.gt ≤ s'.gt) (h2 : r.gt ≤ r'.gt) : Dg ep s' r' (tx ++ more) g :=
  ⟨h.ep, h.sq.imp id (fun ⟨k, a, b, c⟩ => ⟨k, a, getElem?_append_some b, by omega⟩), h.a0, by have := h.ak; omega⟩
theorem Dg.more {ep : Int} {s r : En} {tx : List ByteArray} {g : Gr} (h : Dg ep s r tx g) {s' r' : En} (h1 : s.gt ≤ s'.gt) (h2 : r.gt ≤ r'.gt) : Dg ep s' r' tx g := by
  have := h.send (more := []) h1 h2
  rwa [List.append_nil] at this
/-- It is right. -/
theorem Dg.right {ep : Int} {s r : En} {tx tx2 came came2 : List ByteArray} {g : Gr} (h : Dg ep s r tx g) (hf : Half s r tx came) (hb : Half r s tx2 came2) (he : r.ep = ep) : rightE r g = 0 := by
  have h1 := h.a0
  have h2 := h.ak
  have h3 := hb.gt
  have h4 := hb.gv
  unfold rightE
  rw [if_neg (by rw [h.ep, he]; simp)]
  rcases h.sq with ⟨q1, q2⟩ | ⟨k, q1, q2, q3⟩
  · rw [if_neg (by rw [q1]; omega), if_neg (by omega)]
  · rw [if_neg (by omega), if_neg (by have := hf.size _ (List.mem_of_getElem? q2); omega)]
theorem ackE_len (e : En) (g : Gr) : (ackE e g).length = min e.op.length (e.gv - g.ak.toNat) := by unfold ackE; rw [List.length_drop]; omega
/-- It comes: what the receiver keeps of its own. -/
theorem Half.acked {s r : En} {tx came : List ByteArray} (hf : Half s r tx came) (hok : s.ok) (x : Gr) (hak : x.ak ≤ (r.gt : Int)) (h0 : 0 ≤ x.ak) : Half { s with op := ackE s x } r tx came := by
  have h1 := hf.gv
  have h2 := hf.ack
  have h3 := hf.gt
  have h4 := hok.op
  have hl := ackE_len s x
  refine ⟨hf.gv, ?_, hf.came, hf.gt, ?_, hf.ea, hf.size⟩
  · show ackE s x = tx.drop (tx.length - (ackE s x).length)
    rw [hl]
    unfold ackE
    conv => lhs; rw [hf.op]
    rw [List.drop_drop, List.length_drop]
    congr 1
    omega
  · show tx.length ≤ (ackE s x).length + r.gt
    rw [hl]; omega
/-- .. and of what comes. -/
structure Came (s r : En) (tx came : List ByteArray) (g : Gr) : Prop where
  err : (takeE r g).2.2 = 0
  half : Half s (takeE r g).1 tx (came ++ (takeE r g).2.1)
  gt : r.gt ≤ (takeE r g).1.gt
  next : ∀ k : Nat, g.sq = ((k + 1 : Nat) : Int) → k ≤ r.gt → k + 1 ≤ (takeE r g).1.gt
  ow : (takeE r g).1.ow = (r.ow || decide (g.sq ≠ 0))
theorem Dg.comes {ep : Int} {s r : En} {tx tx2 came came2 : List ByteArray} {g : Gr} (h : Dg ep s r tx g) (hf : Half s r tx came) (hb : Half r s tx2 came2) (he : r.ep = ep) (hok : r.ok) : Came s r tx came g := by
  have hr := h.right hf hb he
  by_cases h0 : g.sq = 0
  · have e : takeE r g = ({ r with op := ackE r g }, [], 0) := by unfold takeE; rw [if_neg (by rw [hr]; simp), if_pos h0]
    refine ⟨?_, ?_, ?_, ?_, ?_⟩
    · rw [e]
    · rw [e]; rw [List.append_nil]; exact hf.other rfl rfl rfl rfl
    · rw [e]
      exact Nat.le_refl _
    · intro k hk; omega
    · rw [e]; simp [h0]
  · have e : takeE r g = ({ r with op := ackE r g, ow := true, ea := (drain (earlyE r g) r.gt).2.1, gt := (drain (earlyE r g) r.gt).2.2, tk := r.tk + 1 }, (drain (earlyE r g) r.gt).1, 0) := by unfold takeE; rw [if_neg (by rw [hr]; simp), if_neg h0]
    obtain ⟨k, hk, hkt, hkw⟩ : ∃ k : Nat, g.sq = ((k + 1 : Nat) : Int) ∧ tx[k]? = some g.bd ∧ k + 1 ≤ r.gt + 32 := h.sq.resolve_left (fun h => h0 h.1)
    have hE : ∀ x ∈ earlyE r g, r.gt < x.1 ∧ tx[x.1 - 1]? = some x.2 := by
      intro x hx
      have old : ∀ x ∈ r.ea, r.gt < x.1 ∧ tx[x.1 - 1]? = some x.2 := fun x hx => ⟨(hok.ea x hx).1, hf.ea x hx⟩
      unfold earlyE at hx
      split at hx
      · rename_i hc
        rcases List.mem_append.1 hx with hx | hx
        · exact old x hx
        · simp at hx
          subst hx
          have h1 := hc.2
          have h2 : g.sq.toNat = k + 1 := by omega
          simp only [h2]
          exact ⟨by omega, hkt⟩
      · exact old x hx
    obtain ⟨d1, d2, d3⟩ := drain_tx tx (earlyE r g) r.gt hE hf.gt
    obtain ⟨_, _, a3⟩ := drain_above (earlyE r g) r.gt (fun x hx => (hE x hx).1)
    refine ⟨?_, ?_, ?_, ?_, ?_⟩
    · rw [e]
    · rw [e]
      exact ⟨hf.gv, hf.op, by simp only; rw [hf.came, d1], d2, by have := hf.ack; simp only; omega, fun x hx => (hE x (a3 x hx)).2, hf.size⟩
    · rw [e]; exact d3
    · intro k' hk' hle
      have hkk : k' = k := by omega
      subst hkk
      rw [e]
      simp only
      by_cases hlt : k' < r.gt
      · omega
      · have hkg : k' = r.gt := by omega
        have hl : ∃ s, look (earlyE r g) (r.gt + 1) = some s := by
          have h2 : g.sq.toNat = r.gt + 1 := by omega
          unfold earlyE
          cases hlk : look r.ea g.sq.toNat with
          | none =>
            rw [if_pos ⟨by simp, by omega⟩, look_snoc]
            rw [h2] at hlk
            rw [hlk, h2]
            simp
          | some s =>
            rw [if_neg (by simp)]
            rw [h2] at hlk
            exact ⟨s, hlk⟩
        obtain ⟨s, hs⟩ := hl
        have hmem := look_mem hs
        have hd := drain_some hs
        have hg2 := (drain_tx tx ((earlyE r g).filter (fun x => decide (r.gt + 1 < x.1))) (r.gt + 1) (fun x hx => by
          have h3 := List.mem_filter.1 hx
          exact ⟨by simpa using h3.2, (hE x h3.1).2⟩) (by
          have := (hE _ hmem).2
          simp only [Nat.add_sub_cancel] at this
          exact (List.getElem?_eq_some_iff.1 this).1)).2.2
        rw [hd]
        simp only
        omega
    · rw [e]; simp [h0]
theorem takeE_op {r : En} {g : Gr} (hr : rightE r g = 0) : (takeE r g).1.op = ackE r g ∧ (takeE r g).1.gv = r.gv := by
  unfold takeE
  rw [if_neg (by rw [hr]; simp)]
  split <;> exact ⟨rfl, rfl⟩
/-- What an end sends. -/
theorem gramsF_mem (e : En) : ∀ (l : List ByteArray) (i : Nat) (g : Gr), g ∈ gramsF e i l → ∃ j, ∃ t, l[j]? = some t ∧ g = ⟨0, false, e.ep, ((e.gv - e.op.length + 1 + (i + j) : Nat) : Int), (e.gt : Int), t⟩
  | [], i, g, h => by cases h
  | s :: l, i, g, h => by
    rw [gramsF] at h
    rcases List.mem_cons.1 h with rfl | h
    · exact ⟨0, s, rfl, by simp⟩
    · obtain ⟨j, t, h1, h2⟩ := gramsF_mem e l (i + 1) g h
      exact ⟨j + 1, t, by simpa using h1, by rw [h2]; simp; omega⟩
theorem outG_dg {ep : Int} {s r : En} {tx came : List ByteArray} (hf : Half s r tx came) (hok : s.ok) (he : s.ep = ep) (g : Gr) (hg : g ∈ outG s) : Dg ep s r tx g := by
  have h1 := hf.gv
  have h2 := hf.ack
  have h3 := hok.op
  have h4 := hok.most
  unfold outG at hg
  split at hg
  · obtain ⟨j, t, hj, rfl⟩ := gramsF_mem s s.op 0 g hg
    have hjl := (List.getElem?_eq_some_iff.1 hj).1
    refine ⟨he, .inr ⟨s.gv - s.op.length + j, ?_, ?_, ?_⟩, by simp, by simp⟩
    · simp only [Nat.zero_add]; congr 1; omega
    · rw [hf.op, List.getElem?_drop] at hj
      rw [h1]; exact hj
    · omega
  · split at hg
    · simp at hg
      subst hg
      exact ⟨he, .inl ⟨rfl, rfl⟩, by simp, by simp⟩
    · cases hg
end Go.Proofs.Ytgabonacpoimfaa
