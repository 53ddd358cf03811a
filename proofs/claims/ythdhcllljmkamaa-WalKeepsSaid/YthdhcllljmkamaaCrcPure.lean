/- Plain mathematics of check sums: no program in sight. -/
import Derived.WalkKit
namespace Go.Proofs.Ythdhcllljmkamaa
set_option linter.unusedVariables false

/-- One bit of the division. -/
def crcBit (c : Nat) : Nat := if c % 2 = 1 then (c / 2) ^^^ 3988292384 else c / 2
def crcBits : Nat → Nat → Nat
  | 0, c => c
  | k + 1, c => crcBit (crcBits k c)
/-- One byte more. -/
def crcStep (c b : Nat) : Nat := crcBits 8 (c ^^^ b)
def crcRun (c : Nat) (l : List UInt8) : Nat := l.foldl (fun c b => crcStep c b.toNat) c
def crcOf (l : List UInt8) : Nat := 4294967295 - crcRun 4294967295 l
def crcTail (c : Nat) : List UInt8 := [UInt8.ofNat (c / 16777216), UInt8.ofNat (c / 65536), UInt8.ofNat (c / 256), UInt8.ofNat c]

theorem xor_lt {a b : Nat} (n : Nat) (ha : a < 2 ^ n) (hb : b < 2 ^ n) : a ^^^ b < 2 ^ n := Nat.xor_lt_two_pow ha hb
theorem crcBit_lt {c : Nat} (h : c < 4294967296) : crcBit c < 4294967296 := by
  unfold crcBit
  split
  · exact xor_lt 32 (by omega) (by omega)
  · omega
theorem crcBits_lt (k : Nat) {c : Nat} (h : c < 4294967296) : crcBits k c < 4294967296 := by
  induction k with
  | zero => exact h
  | succ k ih => exact crcBit_lt ih
theorem crcStep_lt {c b : Nat} (h : c < 4294967296) (hb : b < 256) : crcStep c b < 4294967296 :=
  crcBits_lt 8 (xor_lt 32 h (by omega))
theorem crcRun_lt (l : List UInt8) {c : Nat} (h : c < 4294967296) : crcRun c l < 4294967296 := by
  induction l generalizing c with
  | nil => exact h
  | cons b l ih => exact ih (crcStep_lt h b.toNat_lt)
theorem crcRun_append (c : Nat) (l m : List UInt8) : crcRun c (l ++ m) = crcRun (crcRun c l) m := by simp [crcRun]
theorem crcOf_lt (l : List UInt8) : crcOf l < 4294967296 := by unfold crcOf; omega

/-- The reference's way of one bit: the sum's and the byte's. -/
theorem half_xor (a b : Nat) : (a ^^^ b) / 2 = a / 2 ^^^ b / 2 := by
  have := Nat.shiftRight_xor_distrib (a := a) (b := b) (i := 1)
  simpa [Nat.shiftRight_eq_div_pow] using this
theorem mod2_xor (a b : Nat) : (a ^^^ b) % 2 = 1 ↔ ¬ (a % 2 = 1 ↔ b % 2 = 1) := by
  have := Nat.testBit_xor a b 0
  simp only [Nat.testBit_zero] at this
  by_cases ha : a % 2 = 1 <;> by_cases hb : b % 2 = 1 <;> simp_all
theorem crcBit_xor (c b : Nat) : crcBit (c ^^^ b) =
    (if ¬ (c % 2 = 1 ↔ b % 2 = 1) then c / 2 ^^^ 3988292384 else c / 2) ^^^ (b / 2) := by
  unfold crcBit
  by_cases h : (c ^^^ b) % 2 = 1
  · rw [if_pos h, if_pos ((mod2_xor c b).1 h), half_xor, Nat.xor_assoc, Nat.xor_assoc, Nat.xor_comm (b / 2)]
  · rw [if_neg h, if_neg (fun h' => h ((mod2_xor c b).2 h')), half_xor]

/-- Whether a text's last four bytes are the sum of the rest. -/
def crcGood (l : List UInt8) : Bool := decide (4 ≤ l.length) && (crcTail (crcOf (l.take (l.length - 4))) == l.drop (l.length - 4))
def crcRest (l : List UInt8) : List UInt8 := if crcGood l = true then l.take (l.length - 4) else []
theorem crcGood_append (l : List UInt8) : crcGood (l ++ crcTail (crcOf l)) = true := by
  have h4 : (crcTail (crcOf l)).length = 4 := rfl
  unfold crcGood
  rw [List.length_append, h4, Nat.add_sub_cancel, List.take_left, List.drop_left]
  simp
theorem crcRest_append (l : List UInt8) : crcRest (l ++ crcTail (crcOf l)) = l := by
  have h4 : (crcTail (crcOf l)).length = 4 := rfl
  unfold crcRest
  rw [if_pos (crcGood_append l), List.length_append, h4, Nat.add_sub_cancel, List.take_left]

end Go.Proofs.Ythdhcllljmkamaa
