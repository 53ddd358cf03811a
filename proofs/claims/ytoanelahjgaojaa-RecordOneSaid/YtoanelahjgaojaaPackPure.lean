/- Plain mathematics of numbers and texts as bytes: no program in sight. -/
import Derived.Test.YtoanelahjgaojaaKit
namespace Go.Proofs.Ytoanelahjgaojaa
open Go.RowKit
set_option linter.unusedVariables false

/-- A number without its sign. -/
def zig (n : Int) : Nat := if 0 ≤ n then (2 * n).toNat else (-2 * n - 1).toNat
def zag (u : Nat) : Int := if u % 2 = 0 then (u / 2 : Nat) else -((u / 2 : Nat) : Int) - 1
theorem zag_zig (n : Int) : zag (zig n) = n := by unfold zag zig; split <;> split <;> omega
theorem zig_zag (u : Nat) : zig (zag u) = u := by unfold zag zig; split <;> split <;> omega
theorem zig_lt {n : Int} (h1 : -9223372036854775808 ≤ n) (h2 : n ≤ 9223372036854775807) : zig n < 18446744073709551616 := by
  unfold zig; split <;> omega
theorem zig_inj {a b : Int} (h : zig a = zig b) : a = b := by rw [← zag_zig a, h, zag_zig]

/-- .. as bytes, seven bits each. -/
def varint (u : Nat) : List UInt8 := if u < 128 then [UInt8.ofNat u] else UInt8.ofNat (u % 128 + 128) :: varint (u / 128)
termination_by u
decreasing_by omega
theorem varint_small {u : Nat} (h : u < 128) : varint u = [UInt8.ofNat u] := by rw [varint, if_pos h]
theorem varint_big {u : Nat} (h : 128 ≤ u) : varint u = UInt8.ofNat (u % 128 + 128) :: varint (u / 128) := by rw [varint, if_neg (by omega)]
theorem varint_len : ∀ (k u : Nat), u < 128 ^ (k + 1) → (varint u).length ≤ k + 1
  | 0, u, h => by rw [varint_small (by simpa using h)]; simp
  | k + 1, u, h => by
    by_cases h1 : u < 128
    · rw [varint_small h1]; simp
    · rw [varint_big (by omega)]
      have : u / 128 < 128 ^ (k + 1) := by
        rw [Nat.div_lt_iff_lt_mul (by omega)]
        rw [Nat.pow_succ] at h
        exact h
      have := varint_len k (u / 128) this
      simp
      omega
theorem varint_pos (u : Nat) : 1 ≤ (varint u).length := by
  rw [varint]; split <;> simp
theorem varint_len64 {u : Nat} (h : u < 18446744073709551616) : (varint u).length ≤ 10 :=
  varint_len 9 u (Nat.lt_of_lt_of_le h (by decide))

def encI (n : Int) : List UInt8 := varint (zig n)
def encIs (ns : List Int) : List UInt8 := ns.flatMap encI
def encS (s : List UInt8) : List UInt8 := encI s.length ++ s
def encSs (l : List (List UInt8)) : List UInt8 := l.flatMap encS
def encB (b : Bool) : List UInt8 := encI (if b then 1 else 0)
def encBs (l : List Bool) : List UInt8 := l.flatMap encB
theorem encIs_append (a b : List Int) : encIs (a ++ b) = encIs a ++ encIs b := by simp [encIs]
theorem encIs_one (a : Int) : encIs [a] = encI a := by simp [encIs]
theorem encI_len {n : Int} (h1 : -9223372036854775808 ≤ n) (h2 : n ≤ 9223372036854775807) : (encI n).length ≤ 10 := varint_len64 (zig_lt h1 h2)
theorem encIs_len : ∀ (ns : List Int), (∀ n ∈ ns, -9223372036854775808 ≤ n ∧ n ≤ 9223372036854775807) → (encIs ns).length ≤ 10 * ns.length
  | [], _ => by simp [encIs]
  | n :: ns, h => by
    have h1 := h n (List.mem_cons_self ..)
    have h2 := encIs_len ns (fun m hm => h m (List.mem_cons_of_mem _ hm))
    have h3 := encI_len h1.1 h1.2
    simp only [encIs, List.flatMap_cons, List.length_append, List.length_cons] at h2 ⊢
    omega

/-! What Go's operations come to. -/
theorem not64 (x : Nat) (h : x < 18446744073709551616) : 18446744073709551615 ^^^ x = 18446744073709551615 - x := by
  have h1 : (18446744073709551615 : Nat) = 2 ^ 64 - 1 := rfl
  apply Nat.eq_of_testBit_eq
  intro i
  rw [Nat.testBit_xor, h1, Nat.testBit_two_pow_sub_one, show 2 ^ 64 - 1 - x = 2 ^ 64 - (x + 1) by omega, Nat.testBit_two_pow_sub_succ (by omega)]
  by_cases hi : i < 64
  · simp [hi]
  · have : x.testBit i = false := Nat.testBit_lt_two_pow (Nat.lt_of_lt_of_le h (Nat.pow_le_pow_right (by omega : 0 < 2) (by omega : 64 ≤ i)))
    simp [hi, this]
theorem zig_go (n : Int) (h1 : -9223372036854775808 ≤ n) (h2 : n ≤ 9223372036854775807) :
    bits .xor .u64 (IntKind.u64.wrap ((IntKind.u64.wrap n) * 2)) (IntKind.u64.wrap (n / 9223372036854775808)) = (zig n : Nat) := by
  have hw : ∀ m, IntKind.u64.wrap m = m % 18446744073709551616 := fun m => by simp [IntKind.wrap, IntKind.bits, IntKind.signed]
  rw [hw, hw, hw]
  by_cases h0 : 0 ≤ n
  · have e1 : n % 18446744073709551616 * 2 % 18446744073709551616 = ((2 * n).toNat : Int) := by omega
    have e2 : n / 9223372036854775808 % 18446744073709551616 = ((0 : Nat) : Int) := by omega
    rw [e1, e2, u64_xor_nat _ _ (by omega) (by omega), Nat.xor_zero, zig, if_pos h0]
  · have e1 : n % 18446744073709551616 * 2 % 18446744073709551616 = ((2 * n + 18446744073709551616).toNat : Int) := by omega
    have e2 : n / 9223372036854775808 % 18446744073709551616 = ((18446744073709551615 : Nat) : Int) := by omega
    rw [e1, e2, u64_xor_nat _ _ (by omega) (by omega), Nat.xor_comm, not64 _ (by omega), zig, if_neg h0]
    congr 1
    omega
theorem low7 (u : Nat) : bits .or .u8 ((u : Int) % 256) 128 = ((u % 128 + 128 : Nat) : Int) := by
  have h := u8_or_nat (u % 256) 128 (by omega) (by omega)
  have e : ((u % 256 : Nat) : Int) = (u : Int) % 256 := by omega
  rw [e] at h
  refine h.trans ?_
  congr 1
  have h2 : u % 256 = u % 128 + 128 * (u / 128 % 2) := by omega
  have hor : 128 ||| u % 128 = 128 + u % 128 := by
    have := Nat.two_pow_add_eq_or_of_lt (show u % 128 < 2 ^ 7 by omega) 1
    simp only [Nat.mul_one] at this
    exact this.symm
  rcases Nat.mod_two_eq_zero_or_one (u / 128) with h0 | h0
  · rw [h2, h0, Nat.mul_zero, Nat.add_zero, Nat.or_comm, hor, Nat.add_comm]
  · rw [h2, h0, Nat.mul_one, Nat.add_comm, ← hor, Nat.or_comm 128 (u % 128), Nat.or_assoc, Nat.or_self]

end Go.Proofs.Ytoanelahjgaojaa
