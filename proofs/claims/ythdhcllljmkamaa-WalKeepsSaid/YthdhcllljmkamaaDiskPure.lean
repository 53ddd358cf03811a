/- What a disk is and does: plain mathematics, no program in sight. -/
import Derived.Test.YthdhcllljmkamaaKit
namespace Go.Proofs.Ythdhcllljmkamaa
set_option linter.unusedVariables false

structure DSt where
  safe : List UInt8
  loose : List UInt8
  size : Nat
  down : Bool
  boots : Nat
def DSt.all (st : DSt) : List UInt8 := st.safe ++ st.loose
def DSt.wf (st : DSt) : Prop := st.all.length ≤ st.size ∧ st.size ≤ 262144
def dNew (size : Int) : DSt := ⟨[], [], (min (max size 0) 262144).toNat, false, 1⟩
def dAppend (st : DSt) (s : List UInt8) : Int × DSt :=
  if st.down = true then (7, st) else if st.size < st.all.length + s.length then (6, st) else (0, { st with loose := st.loose ++ s })
def dSync (st : DSt) : Int × DSt := if st.down = true then (7, st) else (0, { st with safe := st.all, loose := [] })
def dTrim (st : DSt) (n : Int) : Int × DSt :=
  if st.down = true then (7, st) else if n < 0 ∨ (st.all.length : Int) < n then (1, st) else (0, { st with safe := st.all.take n.toNat, loose := [] })
def turnLast (l : List UInt8) (t : UInt8) : List UInt8 := l.modify (l.length - 1) (· ^^^ t)
def dOff (st : DSt) (keep : Int) (turn : UInt8) : DSt :=
  if st.down = true then st else { st with down := true, loose := turnLast (st.loose.take (max keep 0).toNat) turn }
def dOn (st : DSt) : DSt := if st.down = true then { st with down := false, safe := st.all, loose := [], boots := st.boots + 1 } else st

theorem turnLast_len (l : List UInt8) (t : UInt8) : (turnLast l t).length = l.length := by simp [turnLast]
theorem dNew_wf (n : Int) : (dNew n).wf := by unfold dNew DSt.wf DSt.all; simp; omega
theorem dAppend_wf {st : DSt} (h : st.wf) (s : List UInt8) : (dAppend st s).2.wf := by
  unfold dAppend
  split
  · exact h
  · split
    · exact h
    · rename_i h1
      unfold DSt.wf DSt.all at *
      simp only [List.length_append] at *
      omega
theorem dSync_wf {st : DSt} (h : st.wf) : (dSync st).2.wf := by
  unfold dSync
  split
  · exact h
  · unfold DSt.wf DSt.all at *
    simpa using h
theorem dTrim_wf {st : DSt} (h : st.wf) (n : Int) : (dTrim st n).2.wf := by
  unfold dTrim
  split
  · exact h
  · split
    · exact h
    · unfold DSt.wf at *
      simp only [DSt.all, List.append_nil, List.length_take] at *
      omega
theorem dOff_wf {st : DSt} (h : st.wf) (k : Int) (t : UInt8) : (dOff st k t).wf := by
  unfold dOff
  split
  · exact h
  · unfold DSt.wf at *
    simp only [DSt.all, List.length_append, turnLast_len, List.length_take] at *
    omega
theorem dOn_wf {st : DSt} (h : st.wf) : (dOn st).wf := by
  unfold dOn
  split
  · unfold DSt.wf DSt.all at *
    simpa using h
  · exact h

/-- A call of a script. -/
structure DCall where
  kind : Int
  s : ByteArray
  n : Int
  turn : UInt8
def dPlay (st : DSt) (c : DCall) : DSt :=
  if c.kind = 0 then (dAppend st c.s.data.toList).2 else if c.kind = 1 then (dSync st).2 else if c.kind = 2 then (dTrim st c.n).2 else if c.kind = 3 then dOff st c.n c.turn else if c.kind = 4 then dOn st else st
theorem dPlay_wf {st : DSt} (h : st.wf) (c : DCall) : (dPlay st c).wf := by
  unfold dPlay
  split
  · exact dAppend_wf h _
  split
  · exact dSync_wf h
  split
  · exact dTrim_wf h _
  split
  · exact dOff_wf h _ _
  split
  · exact dOn_wf h
  · exact h
theorem dPlay_boots (st : DSt) (c : DCall) : st.boots ≤ (dPlay st c).boots ∧ (dPlay st c).boots ≤ st.boots + 1 := by
  unfold dPlay dAppend dSync dTrim dOff dOn
  (repeat' split) <;> simp
theorem dPlay_size (st : DSt) (c : DCall) : (dPlay st c).size = st.size := by
  unfold dPlay dAppend dSync dTrim dOff dOn
  (repeat' split) <;> rfl
def dPlays (st : DSt) (cs : List DCall) : DSt := cs.foldl dPlay st
theorem dPlays_succ (st : DSt) (cs : List DCall) (k : Nat) (h : k < cs.length) : dPlays st (cs.take (k + 1)) = dPlay (dPlays st (cs.take k)) cs[k] := by
  rw [List.take_succ_eq_append_getElem h]; simp only [dPlays, List.foldl_append, List.foldl_cons, List.foldl_nil]
theorem dPlays_wf {st : DSt} (h : st.wf) (cs : List DCall) : (dPlays st cs).wf := by
  induction cs generalizing st with
  | nil => exact h
  | cons c cs ih => exact ih (dPlay_wf h c)
theorem dPlays_boots (st : DSt) (cs : List DCall) : (dPlays st cs).boots ≤ st.boots + cs.length := by
  induction cs generalizing st with
  | nil => exact Nat.le_refl _
  | cons c cs ih =>
    have h1 := ih (dPlay st c)
    have h2 := (dPlay_boots st c).2
    show (dPlays (dPlay st c) cs).boots ≤ _
    rw [List.length_cons]
    omega

end Go.Proofs.Ythdhcllljmkamaa
