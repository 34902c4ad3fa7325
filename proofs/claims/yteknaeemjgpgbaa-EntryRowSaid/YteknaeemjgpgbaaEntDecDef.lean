/-
  The entry that bytes begin with, in plain words: number by number, slot by slot.
-/
import Derived.Test.YteknaeemjgpgbaaEntTakeSlot
import Derived.Test.YteknaeemjgpgbaaEntGoodAll
import Derived.Test.YteknaeemjgpgbaaEntFields
namespace Go.Proofs.Yteknaeemjgpgbaa
open Go.RowKit Go.Sort NibPure

def Ent.setNum (x : Ent) : Nat → Int → Ent
  | 0, n => { x with kind := n }
  | 1, n => { x with cl := n }
  | 2, n => { x with ep := n }
  | 3, n => { x with n := n }
  | 4, n => { x with lsn := n }
  | 5, n => { x with prev := n }
  | 6, n => { x with page := n }
  | 7, n => { x with slot := n }
  | _, n => { x with next := n }
theorem row_set (x : Ent) (i : Nat) (h : i < 9) (n : Int) : x.row.setIfInBounds (offs i) (.int .i64 n) = (x.setNum i n).row := by
  match i, h with
  | 0, _ => rfl | 1, _ => rfl | 2, _ => rfl | 3, _ => rfl | 4, _ => rfl | 5, _ => rfl | 6, _ => rfl | 7, _ => rfl | 8, _ => rfl
def Ent.zero : Ent := ⟨0, 0, 0, 0, 0, 0, 0, 0, false, ⟨#[]⟩, false, ⟨#[]⟩, 0⟩
/-- What is read after so many numbers. -/
def stN (s : List UInt8) : Nat → Ent × List UInt8 × Bool
  | 0 => (Ent.zero, s, false)
  | n + 1 => ((stN s n).1.setNum n (takeI (stN s n).2.1).1, (takeI (stN s n).2.1).2.1, (stN s n).2.2 || !(takeI (stN s n).2.1).2.2)
theorem stN_len (s : List UInt8) (n : Nat) : (stN s n).2.1.length ≤ s.length := by
  induction n with
  | zero => exact Nat.le_refl _
  | succ n ih => exact Nat.le_trans (takeI_rest _) ih
theorem setNum_kind (x : Ent) (i : Nat) (n : Int) : (x.setNum (i + 1) n).kind = x.kind := by
  match i with
  | 0 => rfl | 1 => rfl | 2 => rfl | 3 => rfl | 4 => rfl | 5 => rfl | 6 => rfl | _ + 7 => rfl
theorem stN_kind (s : List UInt8) (n : Nat) : (stN s (n + 1)).1.kind = (stN s 1).1.kind := by
  induction n with
  | zero => rfl
  | succ n ih =>
    have h : (stN s (n + 1 + 1)).1 = (stN s (n + 1)).1.setNum (n + 1) (takeI (stN s (n + 1)).2.1).1 := rfl
    rw [h, setNum_kind, ih]
/-- What is read behind the numbers. -/
def stEnd (s : List UInt8) : Ent × List UInt8 × Bool :=
  let st := stN s (stN s 1).1.many
  if st.1.kind = 1 ∨ st.1.kind = 2 then
    let a := takeSlot st.2.1 st.2.2
    let b := takeSlot a.2.2.1 a.2.2.2
    ({ st.1 with wu := a.1, wd := bs a.2.1, iu := b.1, ix := bs b.2.1 }, b.2.2.1, b.2.2.2)
  else st
/-- The entry that bytes begin with, and the rest. -/
def decE (s : List UInt8) : Option (Ent × List UInt8) := if (stEnd s).2.2 = true ∨ (stEnd s).1.good = false then none else some ((stEnd s).1, (stEnd s).2.1)
def decERes : Option (Ent × List UInt8) → Value
  | some (x, r) => .tuple #[x.val, .string (bs r), .int .i64 0]
  | none => .tuple #[Ent.zero.val, .string (bs []), .int .i64 4]

end Go.Proofs.Yteknaeemjgpgbaa
