/-
  The talk in memory: each of its parts taken out and put back.
-/
import Derived.Test.YtgabonacpoimfaaTkMem
namespace Go.Proofs.Ytgabonacpoimfaa
open Go.RowKit
set_option linter.unusedVariables false
set_option linter.unusedSimpArgs false
section
variable {F : Nat → Prop} {t : Nat} {V : Tv} {x : Tk} {w : World}
theorem TkR.blk (h : Held F (TkR t V x) w) : Has w t (.cells V.cells 60) := Held.blk (B := Stars [EndR V.pa x.a, EndR V.pb x.b, TxR V.v2 x.toA, TxR V.v3 x.toB, TxR V.v4 x.atA, TxR V.v5 x.atB, SnR V.v6 x.pool]) h
theorem TkR.set (h : Held F (TkR t V x) w) (i : Nat) (v : Value) : Held F (Star (BlkR t (V.cells.setIfInBounds i v) 60) (Stars [EndR V.pa x.a, EndR V.pb x.b, TxR V.v2 x.toA, TxR V.v3 x.toB, TxR V.v4 x.atA, TxR V.v5 x.atB, SnR V.v6 x.pool])) (w.setCell ⟨t, i, none⟩ v) ∧ KeptF F w (w.setCell ⟨t, i, none⟩ v) :=
  Held.set (good_less (l1 := []) (TkL.good t V x)) h i v
abbrev TkendA (t : Nat) (V : Tv) (x : Tk) : Rsc := Stars [TkB t V, EndR V.pb x.b, TxR V.v2 x.toA, TxR V.v3 x.toB, TxR V.v4 x.atA, TxR V.v5 x.atB, SnR V.v6 x.pool]
theorem TkendA.good (t : Nat) (V : Tv) (x : Tk) : (TkendA t V x).Good := good_less (l1 := [TkB t V]) (TkL.good t V x)
theorem TkR.endA (h : Held F (TkR t V x) w) : Held F (Star (EndR V.pa x.a) (TkendA t V x)) w := Held.pull [TkB t V] h
theorem TkR.endA_back {e : En} (h : Held F (Star (EndR V.pa e) (TkendA t V x)) w) : Held F (TkR t V { x with a := e }) w := Held.push [TkB t V] h
abbrev TkendB (t : Nat) (V : Tv) (x : Tk) : Rsc := Stars [TkB t V, EndR V.pa x.a, TxR V.v2 x.toA, TxR V.v3 x.toB, TxR V.v4 x.atA, TxR V.v5 x.atB, SnR V.v6 x.pool]
theorem TkendB.good (t : Nat) (V : Tv) (x : Tk) : (TkendB t V x).Good := good_less (l1 := [TkB t V, EndR V.pa x.a]) (TkL.good t V x)
theorem TkR.endB (h : Held F (TkR t V x) w) : Held F (Star (EndR V.pb x.b) (TkendB t V x)) w := Held.pull [TkB t V, EndR V.pa x.a] h
theorem TkR.endB_back {e : En} (h : Held F (Star (EndR V.pb e) (TkendB t V x)) w) : Held F (TkR t V { x with b := e }) w := Held.push [TkB t V, EndR V.pa x.a] h
theorem TkR.toA (h : Held F (TkR t V x) w) : SRow w V.v2 x.toA := (Held.pull [TkB t V, EndR V.pa x.a, EndR V.pb x.b] (A := TxR V.v2 x.toA) (l2 := [TxR V.v3 x.toB, TxR V.v4 x.atA, TxR V.v5 x.atB, SnR V.v6 x.pool]) h).tx
theorem TkR.toA_more (h : Held F (TkR t V x) w) {w' : World} {v' : Value} {q' : List ByteArray} (hr : SRow w' v' q') (hg : w.grownBy w' V.v2.ownBlock) (hf : ∀ g, v'.ownBlock = some g → V.v2.ownBlock = some g ∨ w.heap.size ≤ g) :
    Has w' t (.cells V.cells 60) ∧ Held F (TkR t { V with v2 := v' } { x with toA := q' }) (w'.setCell ⟨t, 2, none⟩ v') ∧ KeptF F w (w'.setCell ⟨t, 2, none⟩ v') := by
  have hp := Held.pull [TkB t V, EndR V.pa x.a, EndR V.pb x.b] (A := TxR V.v2 x.toA) (l2 := [TxR V.v3 x.toB, TxR V.v4 x.atA, TxR V.v5 x.atB, SnR V.v6 x.pool]) h
  obtain ⟨h1, k1⟩ := Held.txMore (good_less (l1 := [TkB t V, EndR V.pa x.a, EndR V.pb x.b]) (A := TxR V.v2 x.toA) (l2 := [TxR V.v3 x.toB, TxR V.v4 x.atA, TxR V.v5 x.atB, SnR V.v6 x.pool]) (TkL.good t V x)) hp hr hg hf
  have hq : Held F (Star (TkB t V) (Stars ([EndR V.pa x.a, EndR V.pb x.b] ++ TxR v' q' :: [TxR V.v3 x.toB, TxR V.v4 x.atA, TxR V.v5 x.atB, SnR V.v6 x.pool]))) w' := Held.push [TkB t V, EndR V.pa x.a, EndR V.pb x.b] (A := TxR v' q') (l2 := [TxR V.v3 x.toB, TxR V.v4 x.atA, TxR V.v5 x.atB, SnR V.v6 x.pool]) h1
  have gd : (Stars ([EndR V.pa x.a, EndR V.pb x.b] ++ TxR v' q' :: [TxR V.v3 x.toB, TxR V.v4 x.atA, TxR V.v5 x.atB, SnR V.v6 x.pool])).Good := good_less (l1 := []) (A := TkB t { V with v2 := v' }) (l2 := [EndR V.pa x.a, EndR V.pb x.b] ++ TxR v' q' :: [TxR V.v3 x.toB, TxR V.v4 x.atA, TxR V.v5 x.atB, SnR V.v6 x.pool]) (TkL.good t { V with v2 := v' } { x with toA := q' })
  obtain ⟨h2, k2⟩ := Held.set gd hq 2 v'
  exact ⟨hq.blk, h2, k1.trans k2⟩
theorem TkR.toB (h : Held F (TkR t V x) w) : SRow w V.v3 x.toB := (Held.pull [TkB t V, EndR V.pa x.a, EndR V.pb x.b, TxR V.v2 x.toA] (A := TxR V.v3 x.toB) (l2 := [TxR V.v4 x.atA, TxR V.v5 x.atB, SnR V.v6 x.pool]) h).tx
theorem TkR.toB_more (h : Held F (TkR t V x) w) {w' : World} {v' : Value} {q' : List ByteArray} (hr : SRow w' v' q') (hg : w.grownBy w' V.v3.ownBlock) (hf : ∀ g, v'.ownBlock = some g → V.v3.ownBlock = some g ∨ w.heap.size ≤ g) :
    Has w' t (.cells V.cells 60) ∧ Held F (TkR t { V with v3 := v' } { x with toB := q' }) (w'.setCell ⟨t, 3, none⟩ v') ∧ KeptF F w (w'.setCell ⟨t, 3, none⟩ v') := by
  have hp := Held.pull [TkB t V, EndR V.pa x.a, EndR V.pb x.b, TxR V.v2 x.toA] (A := TxR V.v3 x.toB) (l2 := [TxR V.v4 x.atA, TxR V.v5 x.atB, SnR V.v6 x.pool]) h
  obtain ⟨h1, k1⟩ := Held.txMore (good_less (l1 := [TkB t V, EndR V.pa x.a, EndR V.pb x.b, TxR V.v2 x.toA]) (A := TxR V.v3 x.toB) (l2 := [TxR V.v4 x.atA, TxR V.v5 x.atB, SnR V.v6 x.pool]) (TkL.good t V x)) hp hr hg hf
  have hq : Held F (Star (TkB t V) (Stars ([EndR V.pa x.a, EndR V.pb x.b, TxR V.v2 x.toA] ++ TxR v' q' :: [TxR V.v4 x.atA, TxR V.v5 x.atB, SnR V.v6 x.pool]))) w' := Held.push [TkB t V, EndR V.pa x.a, EndR V.pb x.b, TxR V.v2 x.toA] (A := TxR v' q') (l2 := [TxR V.v4 x.atA, TxR V.v5 x.atB, SnR V.v6 x.pool]) h1
  have gd : (Stars ([EndR V.pa x.a, EndR V.pb x.b, TxR V.v2 x.toA] ++ TxR v' q' :: [TxR V.v4 x.atA, TxR V.v5 x.atB, SnR V.v6 x.pool])).Good := good_less (l1 := []) (A := TkB t { V with v3 := v' }) (l2 := [EndR V.pa x.a, EndR V.pb x.b, TxR V.v2 x.toA] ++ TxR v' q' :: [TxR V.v4 x.atA, TxR V.v5 x.atB, SnR V.v6 x.pool]) (TkL.good t { V with v3 := v' } { x with toB := q' })
  obtain ⟨h2, k2⟩ := Held.set gd hq 3 v'
  exact ⟨hq.blk, h2, k1.trans k2⟩
theorem TkR.atA (h : Held F (TkR t V x) w) : SRow w V.v4 x.atA := (Held.pull [TkB t V, EndR V.pa x.a, EndR V.pb x.b, TxR V.v2 x.toA, TxR V.v3 x.toB] (A := TxR V.v4 x.atA) (l2 := [TxR V.v5 x.atB, SnR V.v6 x.pool]) h).tx
theorem TkR.atA_more (h : Held F (TkR t V x) w) {w' : World} {v' : Value} {q' : List ByteArray} (hr : SRow w' v' q') (hg : w.grownBy w' V.v4.ownBlock) (hf : ∀ g, v'.ownBlock = some g → V.v4.ownBlock = some g ∨ w.heap.size ≤ g) :
    Has w' t (.cells V.cells 60) ∧ Held F (TkR t { V with v4 := v' } { x with atA := q' }) (w'.setCell ⟨t, 4, none⟩ v') ∧ KeptF F w (w'.setCell ⟨t, 4, none⟩ v') := by
  have hp := Held.pull [TkB t V, EndR V.pa x.a, EndR V.pb x.b, TxR V.v2 x.toA, TxR V.v3 x.toB] (A := TxR V.v4 x.atA) (l2 := [TxR V.v5 x.atB, SnR V.v6 x.pool]) h
  obtain ⟨h1, k1⟩ := Held.txMore (good_less (l1 := [TkB t V, EndR V.pa x.a, EndR V.pb x.b, TxR V.v2 x.toA, TxR V.v3 x.toB]) (A := TxR V.v4 x.atA) (l2 := [TxR V.v5 x.atB, SnR V.v6 x.pool]) (TkL.good t V x)) hp hr hg hf
  have hq : Held F (Star (TkB t V) (Stars ([EndR V.pa x.a, EndR V.pb x.b, TxR V.v2 x.toA, TxR V.v3 x.toB] ++ TxR v' q' :: [TxR V.v5 x.atB, SnR V.v6 x.pool]))) w' := Held.push [TkB t V, EndR V.pa x.a, EndR V.pb x.b, TxR V.v2 x.toA, TxR V.v3 x.toB] (A := TxR v' q') (l2 := [TxR V.v5 x.atB, SnR V.v6 x.pool]) h1
  have gd : (Stars ([EndR V.pa x.a, EndR V.pb x.b, TxR V.v2 x.toA, TxR V.v3 x.toB] ++ TxR v' q' :: [TxR V.v5 x.atB, SnR V.v6 x.pool])).Good := good_less (l1 := []) (A := TkB t { V with v4 := v' }) (l2 := [EndR V.pa x.a, EndR V.pb x.b, TxR V.v2 x.toA, TxR V.v3 x.toB] ++ TxR v' q' :: [TxR V.v5 x.atB, SnR V.v6 x.pool]) (TkL.good t { V with v4 := v' } { x with atA := q' })
  obtain ⟨h2, k2⟩ := Held.set gd hq 4 v'
  exact ⟨hq.blk, h2, k1.trans k2⟩
theorem TkR.atB (h : Held F (TkR t V x) w) : SRow w V.v5 x.atB := (Held.pull [TkB t V, EndR V.pa x.a, EndR V.pb x.b, TxR V.v2 x.toA, TxR V.v3 x.toB, TxR V.v4 x.atA] (A := TxR V.v5 x.atB) (l2 := [SnR V.v6 x.pool]) h).tx
theorem TkR.atB_more (h : Held F (TkR t V x) w) {w' : World} {v' : Value} {q' : List ByteArray} (hr : SRow w' v' q') (hg : w.grownBy w' V.v5.ownBlock) (hf : ∀ g, v'.ownBlock = some g → V.v5.ownBlock = some g ∨ w.heap.size ≤ g) :
    Has w' t (.cells V.cells 60) ∧ Held F (TkR t { V with v5 := v' } { x with atB := q' }) (w'.setCell ⟨t, 5, none⟩ v') ∧ KeptF F w (w'.setCell ⟨t, 5, none⟩ v') := by
  have hp := Held.pull [TkB t V, EndR V.pa x.a, EndR V.pb x.b, TxR V.v2 x.toA, TxR V.v3 x.toB, TxR V.v4 x.atA] (A := TxR V.v5 x.atB) (l2 := [SnR V.v6 x.pool]) h
  obtain ⟨h1, k1⟩ := Held.txMore (good_less (l1 := [TkB t V, EndR V.pa x.a, EndR V.pb x.b, TxR V.v2 x.toA, TxR V.v3 x.toB, TxR V.v4 x.atA]) (A := TxR V.v5 x.atB) (l2 := [SnR V.v6 x.pool]) (TkL.good t V x)) hp hr hg hf
  have hq : Held F (Star (TkB t V) (Stars ([EndR V.pa x.a, EndR V.pb x.b, TxR V.v2 x.toA, TxR V.v3 x.toB, TxR V.v4 x.atA] ++ TxR v' q' :: [SnR V.v6 x.pool]))) w' := Held.push [TkB t V, EndR V.pa x.a, EndR V.pb x.b, TxR V.v2 x.toA, TxR V.v3 x.toB, TxR V.v4 x.atA] (A := TxR v' q') (l2 := [SnR V.v6 x.pool]) h1
  have gd : (Stars ([EndR V.pa x.a, EndR V.pb x.b, TxR V.v2 x.toA, TxR V.v3 x.toB, TxR V.v4 x.atA] ++ TxR v' q' :: [SnR V.v6 x.pool])).Good := good_less (l1 := []) (A := TkB t { V with v5 := v' }) (l2 := [EndR V.pa x.a, EndR V.pb x.b, TxR V.v2 x.toA, TxR V.v3 x.toB, TxR V.v4 x.atA] ++ TxR v' q' :: [SnR V.v6 x.pool]) (TkL.good t { V with v5 := v' } { x with atB := q' })
  obtain ⟨h2, k2⟩ := Held.set gd hq 5 v'
  exact ⟨hq.blk, h2, k1.trans k2⟩
theorem TkR.pool (h : Held F (TkR t V x) w) : RowS w V.v6 x.pool := (Held.pull [TkB t V, EndR V.pa x.a, EndR V.pb x.b, TxR V.v2 x.toA, TxR V.v3 x.toB, TxR V.v4 x.atA, TxR V.v5 x.atB] (A := SnR V.v6 x.pool) (l2 := []) h).sn
theorem TkR.pool_more (h : Held F (TkR t V x) w) {w' : World} {v' : Value} {q' : List Sn} (hr : RowS w' v' q') (hg : w.grownBy w' V.v6.ownBlock) (hf : ∀ g, v'.ownBlock = some g → V.v6.ownBlock = some g ∨ w.heap.size ≤ g) :
    Has w' t (.cells V.cells 60) ∧ Held F (TkR t { V with v6 := v' } { x with pool := q' }) (w'.setCell ⟨t, 6, none⟩ v') ∧ KeptF F w (w'.setCell ⟨t, 6, none⟩ v') := by
  have hp := Held.pull [TkB t V, EndR V.pa x.a, EndR V.pb x.b, TxR V.v2 x.toA, TxR V.v3 x.toB, TxR V.v4 x.atA, TxR V.v5 x.atB] (A := SnR V.v6 x.pool) (l2 := []) h
  obtain ⟨h1, k1⟩ := Held.snMore (good_less (l1 := [TkB t V, EndR V.pa x.a, EndR V.pb x.b, TxR V.v2 x.toA, TxR V.v3 x.toB, TxR V.v4 x.atA, TxR V.v5 x.atB]) (A := SnR V.v6 x.pool) (l2 := []) (TkL.good t V x)) hp hr hg hf
  have hq : Held F (Star (TkB t V) (Stars ([EndR V.pa x.a, EndR V.pb x.b, TxR V.v2 x.toA, TxR V.v3 x.toB, TxR V.v4 x.atA, TxR V.v5 x.atB] ++ SnR v' q' :: []))) w' := Held.push [TkB t V, EndR V.pa x.a, EndR V.pb x.b, TxR V.v2 x.toA, TxR V.v3 x.toB, TxR V.v4 x.atA, TxR V.v5 x.atB] (A := SnR v' q') (l2 := []) h1
  have gd : (Stars ([EndR V.pa x.a, EndR V.pb x.b, TxR V.v2 x.toA, TxR V.v3 x.toB, TxR V.v4 x.atA, TxR V.v5 x.atB] ++ SnR v' q' :: [])).Good := good_less (l1 := []) (A := TkB t { V with v6 := v' }) (l2 := [EndR V.pa x.a, EndR V.pb x.b, TxR V.v2 x.toA, TxR V.v3 x.toB, TxR V.v4 x.atA, TxR V.v5 x.atB] ++ SnR v' q' :: []) (TkL.good t { V with v6 := v' } { x with pool := q' })
  obtain ⟨h2, k2⟩ := Held.set gd hq 6 v'
  exact ⟨hq.blk, h2, k1.trans k2⟩
end
end Go.Proofs.Ytgabonacpoimfaa
