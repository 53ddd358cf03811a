/- The reference's reader, plain: count the leading bytes, then Horner; equal to decV. -/
import Derived.Test.YtkifcmlehiidiaaPackDec
namespace Go.Proofs.Ytkifcmlehiidiaa
open Go.RowKit
set_option linter.unusedVariables false

def lead : List UInt8 → Nat
  | [] => 0
  | c :: l => if c.toNat < 128 then 0 else lead l + 1
def hv : List UInt8 → Nat
  | [] => 0
  | c :: l => if c.toNat < 128 then c.toNat else (c.toNat - 128) + 128 * hv l
def lastB (l : List UInt8) : Nat := (l.getD (lead l) 0).toNat
theorem lead_le : ∀ (l : List UInt8), lead l ≤ l.length
  | [] => Nat.le_refl _
  | c :: l => by
    have := lead_le l
    unfold lead
    split
    · omega
    · simp; omega
theorem lastB_small {c : UInt8} {l : List UInt8} (h : c.toNat < 128) : lastB (c :: l) = c.toNat := by simp [lastB, lead, h]
theorem lastB_big {c : UInt8} {l : List UInt8} (h : ¬ c.toNat < 128) : lastB (c :: l) = lastB l := by simp [lastB, lead, h]

theorem hv_big {c : UInt8} {l : List UInt8} (h : ¬ c.toNat < 128) : hv (c :: l) = (c.toNat - 128) + 128 * hv l := by simp [hv, h]
theorem hv_small {c : UInt8} {l : List UInt8} (h : c.toNat < 128) : hv (c :: l) = c.toNat := by simp [hv, h]
theorem decV_lead : ∀ (l : List UInt8) (i u : Nat), i ≤ 9 →
    decV i u l = if l.length ≤ lead l ∨ 9 < i + lead l then none else if (i + lead l = 9 ∧ 1 < lastB l) ∨ (0 < i + lead l ∧ lastB l = 0) then none else some (u + hv l * 128 ^ i, i + lead l + 1)
  | [], i, u, hi => by simp [decV]
  | c :: l, i, u, hi => by
    by_cases hc : c.toNat < 128
    · have e1 : lead (c :: l) = 0 := by simp [lead, hc]
      have e2 : hv (c :: l) = c.toNat := by simp [hv, hc]
      rw [decV, e1, e2, lastB_small hc, if_pos hc]
      rw [if_neg (show ¬ ((c :: l).length ≤ 0 ∨ 9 < i + 0) by simp; omega)]
      by_cases h9 : i = 9 ∧ 1 < c.toNat
      · rw [if_pos h9, if_pos (by omega)]
      · rw [if_neg h9]
        by_cases h0 : c.toNat = 0 ∧ 0 < i
        · rw [if_pos h0, if_pos (by omega)]
        · rw [if_neg h0, if_neg (by omega)]
    · have e1 : lead (c :: l) = lead l + 1 := by simp [lead, hc]
      have e2 : hv (c :: l) = (c.toNat - 128) + 128 * hv l := by simp [hv, hc]
      rw [decV, e1, e2, lastB_big hc, if_neg hc]
      by_cases h9 : i = 9
      · rw [if_pos (by omega), if_pos (by omega)]
      · rw [if_neg (by omega), decV_lead l (i + 1) _ (by omega)]
        have ev : u + (c.toNat - 128) * 128 ^ i + hv l * 128 ^ (i + 1) = u + (c.toNat - 128 + 128 * hv l) * 128 ^ i := by
          rw [Nat.pow_succ, Nat.add_mul, Nat.add_assoc]
          congr 2
          rw [Nat.mul_comm (128 ^ i) 128, ← Nat.mul_assoc, Nat.mul_comm (hv l) 128]
        rw [ev]
        have c1 : ((c :: l).length ≤ lead l + 1 ∨ 9 < i + (lead l + 1)) ↔ (l.length ≤ lead l ∨ 9 < i + 1 + lead l) := by simp; omega
        have c2 : ((i + (lead l + 1) = 9 ∧ 1 < lastB l) ∨ (0 < i + (lead l + 1) ∧ lastB l = 0)) ↔ ((i + 1 + lead l = 9 ∧ 1 < lastB l) ∨ (0 < i + 1 + lead l ∧ lastB l = 0)) := by omega
        simp only [c1, c2]
        rw [show i + (lead l + 1) + 1 = i + 1 + lead l + 1 by omega]
theorem decI_lead (l : List UInt8) : decI l = if l.length ≤ lead l ∨ 9 < lead l then none else if (lead l = 9 ∧ 1 < lastB l) ∨ (0 < lead l ∧ lastB l = 0) then none else some (zag (hv l), lead l + 1) := by
  unfold decI
  rw [decV_lead l 0 0 (by omega)]
  simp only [Nat.zero_add, Nat.pow_zero, Nat.mul_one]
  split
  · rfl
  · split
    · rfl
    · rfl

/-- The step of the count, and Horner's. -/
theorem lead_drop : ∀ (l : List UInt8) (k : Nat), k ≤ lead l → lead (l.drop k) = lead l - k
  | l, 0, _ => by simp
  | [], k + 1, h => by simp [lead] at h
  | c :: l, k + 1, h => by
    by_cases hc : c.toNat < 128
    · simp [lead, hc] at h
    · have e1 : lead (c :: l) = lead l + 1 := by simp [lead, hc]
      rw [e1] at h ⊢
      rw [List.drop_succ_cons, lead_drop l k (by omega)]
      omega
theorem lead_lt {l : List UInt8} {k : Nat} (h : k < lead l) (hk : k < l.length) : 128 ≤ l[k].toNat := by
  have h1 := lead_drop l k (by omega)
  rw [List.drop_eq_getElem_cons hk] at h1
  by_cases hc : l[k].toNat < 128
  · simp [lead, hc] at h1
    omega
  · omega
theorem lead_at {l : List UInt8} (h : lead l < l.length) : l[lead l].toNat < 128 := by
  have h1 := lead_drop l (lead l) (by omega)
  rw [List.drop_eq_getElem_cons h] at h1
  by_cases hc : l[lead l].toNat < 128
  · exact hc
  · simp [lead, hc] at h1
theorem hv_step {l : List UInt8} {k : Nat} (h : k < lead l) (hk : k < l.length) : hv (l.drop k) = l[k].toNat % 128 + 128 * hv (l.drop (k + 1)) := by
  have h1 := lead_lt h hk
  have h2 := l[k].toNat_lt
  rw [List.drop_eq_getElem_cons hk, hv_big (by omega)]
  omega
theorem hv_last {l : List UInt8} (h : lead l < l.length) : hv (l.drop (lead l)) = l[lead l].toNat % 128 := by
  have h1 := lead_at h
  rw [List.drop_eq_getElem_cons h, hv_small h1, Nat.mod_eq_of_lt h1]

end Go.Proofs.Ytkifcmlehiidiaa
