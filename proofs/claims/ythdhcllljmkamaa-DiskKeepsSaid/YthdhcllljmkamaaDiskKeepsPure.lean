/- What is left of a disk behind a power failure: plain mathematics. -/
import Derived.Test.YthdhcllljmkamaaDiskPure
namespace Go.Proofs.Ythdhcllljmkamaa
set_option linter.unusedVariables false

theorem turn_at (l : List UInt8) (x : UInt8) (i : Nat) : (turnLast l x)[i]? = if l.length - 1 = i then l[i]?.map (· ^^^ x) else l[i]? := by
  unfold turnLast
  rw [List.getElem?_modify]
  by_cases h : l.length - 1 = i
  · rw [if_pos h]; simp [h]
  · rw [if_neg h]; simp [h]
theorem left_len (A B : List UInt8) (k : Nat) (x : UInt8) : (A ++ turnLast (B.take k) x).length ≤ (A ++ B).length := by
  rw [List.length_append, List.length_append, turnLast_len, List.length_take]; omega
theorem left_head (A T : List UInt8) : (A ++ T).take A.length = A := List.take_left
theorem left_same (A B : List UInt8) (k : Nat) (x : UInt8) (j : Nat) (hj : j + 1 = (A ++ turnLast (B.take k) x).length) (hA : A.length ≤ j) :
    (A ++ turnLast (B.take k) x).take j = (A ++ B).take j ∧ ∀ h h', (A ++ turnLast (B.take k) x)[j]'h ^^^ x = (A ++ B)[j]'h' := by
  have hl : (turnLast (B.take k) x).length = (B.take k).length := turnLast_len _ _
  rw [List.length_append, hl] at hj
  have hlt : (B.take k).length ≤ B.length := by rw [List.length_take]; omega
  have hlk : (B.take k).length ≤ k := by rw [List.length_take]; omega
  constructor
  · apply List.ext_getElem?
    intro i
    rw [List.getElem?_take, List.getElem?_take]
    split
    · rename_i hi
      by_cases hiA : i < A.length
      · rw [List.getElem?_append_left hiA, List.getElem?_append_left hiA]
      · rw [List.getElem?_append_right (by omega), List.getElem?_append_right (by omega), turn_at, if_neg (by omega), List.getElem?_take_of_lt (by omega)]
    · rfl
  · intro h h'
    have e1 : (A ++ turnLast (B.take k) x)[j]? = some ((A ++ turnLast (B.take k) x)[j]'h) := List.getElem?_eq_getElem h
    have e2 : (A ++ B)[j]? = some ((A ++ B)[j]'h') := List.getElem?_eq_getElem h'
    rw [List.getElem?_append_right hA, turn_at, if_pos (by omega), List.getElem?_take_of_lt (by omega)] at e1
    rw [List.getElem?_append_right hA] at e2
    rw [e2] at e1
    simp only [Option.map_some, Option.some.injEq] at e1
    rw [← e1, UInt8.xor_assoc, UInt8.xor_self, UInt8.xor_zero]

end Go.Proofs.Ythdhcllljmkamaa
