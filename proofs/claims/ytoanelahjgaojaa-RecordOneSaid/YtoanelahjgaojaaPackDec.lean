/- Plain mathematics of reading numbers and texts back: no program in sight. -/
import Derived.Test.YtoanelahjgaojaaPackPure
import Derived.Lib.Zigzag
namespace Go.Proofs.Ytoanelahjgaojaa
open Go.RowKit
set_option linter.unusedVariables false

/-- What the bytes from here on come to, i of them having been read, which came to u: the number without its sign, and how many bytes in all. -/
def decV : Nat → Nat → List UInt8 → Option (Nat × Nat)
  | _, _, [] => none
  | i, u, c :: l =>
    if i = 9 ∧ 1 < c.toNat then none
    else if c.toNat < 128 then (if c.toNat = 0 ∧ 0 < i then none else some (u + c.toNat * 128 ^ i, i + 1))
    else decV (i + 1) (u + (c.toNat - 128) * 128 ^ i) l

theorem toNat_ofNat_lt {n : Nat} (h : n < 256) : (UInt8.ofNat n).toNat = n := by simp; omega

/-- What was put is read. -/
theorem decV_varint : ∀ (k i u v : Nat) (rest : List UInt8), v < 128 ^ (k + 1) → i + k ≤ 9 → (i + k = 9 → v < 2 * 128 ^ k) → (0 < i → 0 < v) →
    decV i u (varint v ++ rest) = some (u + v * 128 ^ i, i + (varint v).length)
  | k, i, u, v, rest, hv, hik, h9, hpos => by
    by_cases hs : v < 128
    · rw [varint_small hs]
      have ht := toNat_ofNat_lt (n := v) (by omega)
      simp only [List.cons_append, List.nil_append, decV, ht]
      have h1 : ¬ (i = 9 ∧ 1 < v) := by
        rintro ⟨rfl, h⟩
        have hk : k = 0 := by omega
        subst hk
        have := h9 rfl
        simp at this
        omega
      rw [if_neg h1, if_pos hs, if_neg (by rintro ⟨h, h2⟩; have := hpos h2; omega)]
      simp
    · obtain ⟨k, rfl⟩ : ∃ m, k = m + 1 := by
        cases k with
        | zero => simp at hv; omega
        | succ m => exact ⟨m, rfl⟩
      rw [varint_big (by omega)]
      have ht := toNat_ofNat_lt (n := v % 128 + 128) (by omega)
      simp only [List.cons_append, decV, ht]
      rw [if_neg (by omega), if_neg (by omega)]
      have hpow : (128 : Nat) ^ (k + 1 + 1) = 128 ^ (k + 1) * 128 := Nat.pow_succ ..
      have hpow2 : (128 : Nat) ^ (k + 1) = 128 ^ k * 128 := Nat.pow_succ ..
      have := decV_varint k (i + 1) (u + (v % 128 + 128 - 128) * 128 ^ i) (v / 128) rest (by rw [Nat.div_lt_iff_lt_mul (by omega)]; omega) (by omega)
        (fun h => by have := h9 (by omega); rw [Nat.div_lt_iff_lt_mul (by omega)]; omega) (fun _ => by omega)
      rw [this]
      have e : v * 128 ^ i = (v % 128) * 128 ^ i + v / 128 * (128 ^ i * 128) := by
        have h := Nat.div_add_mod v 128
        calc v * 128 ^ i = (128 * (v / 128) + v % 128) * 128 ^ i := by rw [h]
          _ = _ := by rw [Nat.add_mul, Nat.add_comm, Nat.mul_comm 128 (v / 128), Nat.mul_assoc, Nat.mul_comm 128 (128 ^ i)]
      have e2 : (128 : Nat) ^ (i + 1) = 128 ^ i * 128 := Nat.pow_succ ..
      rw [e2, e, Nat.add_sub_cancel]
      simp only [List.length_cons, Option.some.injEq, Prod.mk.injEq]
      constructor
      · omega
      · omega
/-- What is read was put. -/
theorem decV_put : ∀ (l : List UInt8) (i u v k : Nat), i ≤ 9 → decV i u l = some (v, k) →
    ∃ x rest, l = varint x ++ rest ∧ v = u + x * 128 ^ i ∧ k = i + (varint x).length ∧ x * 128 ^ i < 18446744073709551616 ∧ (0 < i → 0 < x)
  | [], i, u, v, k, hi, h => by simp [decV] at h
  | c :: l, i, u, v, k, hi, h => by
    simp only [decV] at h
    split at h
    · cases h
    · rename_i h9
      have hp : (128 : Nat) ^ i ≤ 128 ^ 9 := Nat.pow_le_pow_right (by omega) hi
      have hc := c.toNat_lt
      split at h
      · rename_i hlt
        split at h
        · cases h
        · rename_i hz
          simp only [Option.some.injEq, Prod.mk.injEq] at h
          have hcc : UInt8.ofNat c.toNat = c := by simp
          refine ⟨c.toNat, l, by rw [varint_small hlt, hcc]; rfl, h.1.symm, by rw [varint_small hlt, ← h.2]; rfl, ?_, by omega⟩
          by_cases h9' : i = 9
          · subst h9'
            have : c.toNat ≤ 1 := by omega
            have e : (128 : Nat) ^ 9 = 9223372036854775808 := by decide
            rw [e]; omega
          · have hp8 : (128 : Nat) ^ i ≤ 128 ^ 8 := Nat.pow_le_pow_right (by omega) (by omega)
            have e : (128 : Nat) ^ 8 = 72057594037927936 := by decide
            rw [e] at hp8
            have := Nat.mul_le_mul (show c.toNat ≤ 127 by omega) hp8
            omega
      · rename_i hge
        have hi8 : i ≤ 8 := by
          rcases Nat.lt_or_ge i 9 with h' | h'
          · omega
          · exfalso; apply h9; constructor <;> omega
        obtain ⟨x, rest, h1, h2, h3, h4, h5⟩ := decV_put l (i + 1) _ v k (by omega) h
        have hx := h5 (by omega)
        have e2 : (128 : Nat) ^ (i + 1) = 128 ^ i * 128 := Nat.pow_succ ..
        have hb : 128 ≤ x * 128 + (c.toNat - 128) := by omega
        have hd : (x * 128 + (c.toNat - 128)) / 128 = x := by omega
        have hm : (x * 128 + (c.toNat - 128)) % 128 = c.toNat - 128 := by omega
        have hcc : UInt8.ofNat (c.toNat - 128 + 128) = c := by
          rw [show c.toNat - 128 + 128 = c.toNat by omega]; simp
        refine ⟨x * 128 + (c.toNat - 128), rest, ?_, ?_, ?_, ?_, by omega⟩
        · rw [varint_big hb, hd, hm, hcc, h1]; rfl
        · rw [h2, e2, Nat.add_mul, Nat.mul_assoc, Nat.mul_comm 128 (128 ^ i)]
          omega
        · rw [varint_big hb, hd, h3]; simp; omega
        · -- below 2^64: the lower part fills up the room that x leaves
          rw [e2] at h4
          have hd8 : 128 ^ i ∣ 18446744073709551616 := by
            have e : (18446744073709551616 : Nat) = 128 ^ 8 * 256 := by decide
            rw [e]
            exact Nat.dvd_trans (Nat.pow_dvd_pow 128 hi8) (Nat.dvd_mul_right ..)
          obtain ⟨q, hq⟩ := hd8
          have hpi : 0 < 128 ^ i := Nat.pow_pos (by omega)
          have h6 : x * 128 < q := by
            have : 128 ^ i * (x * 128) < 128 ^ i * q := by rw [← hq, Nat.mul_comm]; rw [Nat.mul_comm (128 ^ i) 128, ← Nat.mul_assoc] at h4; exact h4
            exact Nat.lt_of_mul_lt_mul_left this
          have hq128 : 128 ∣ q ∨ q ∣ 128 ∨ True := .inr (.inr trivial)
          have h7 : 128 ∣ q := by
            have e : (18446744073709551616 : Nat) = 128 ^ i * (128 ^ (8 - i) * 256) := by
              rw [← Nat.mul_assoc, ← Nat.pow_add, show i + (8 - i) = 8 by omega]
            rw [e] at hq
            have := Nat.eq_of_mul_eq_mul_left hpi hq
            rw [← this]
            exact Nat.dvd_trans (by decide : 128 ∣ 256) (Nat.dvd_mul_left ..)
          obtain ⟨q', rfl⟩ := h7
          have h8 : x * 128 + (c.toNat - 128) < 128 * q' := by omega
          rw [hq, Nat.mul_comm]
          exact Nat.mul_lt_mul_of_pos_left h8 hpi

/-- The next number: it, and how many bytes it takes. -/
def decI (l : List UInt8) : Option (Int × Nat) := (decV 0 0 l).map fun (u, k) => (zag u, k)
theorem decI_enc {n : Int} (h1 : -9223372036854775808 ≤ n) (h2 : n ≤ 9223372036854775807) (rest : List UInt8) : decI (encI n ++ rest) = some (n, (encI n).length) := by
  have hz := zig_lt h1 h2
  unfold decI encI
  have e : (128 : Nat) ^ 9 = 9223372036854775808 := by decide
  rw [decV_varint 9 0 0 (zig n) rest (Nat.lt_of_lt_of_le hz (by decide)) (by omega) (fun _ => by rw [e]; omega) (by omega)]
  simp [zag_zig]
theorem decI_put {l : List UInt8} {n : Int} {k : Nat} (h : decI l = some (n, k)) : ∃ rest, l = encI n ++ rest ∧ k = (encI n).length ∧ -9223372036854775808 ≤ n ∧ n ≤ 9223372036854775807 := by
  unfold decI at h
  cases hd : decV 0 0 l with
  | none => rw [hd] at h; cases h
  | some p =>
    obtain ⟨u, k'⟩ := p
    rw [hd] at h
    simp only [Option.map_some, Option.some.injEq, Prod.mk.injEq] at h
    obtain ⟨x, rest, h1, h2, h3, h4, _⟩ := decV_put l 0 0 u k' (by omega) hd
    simp only [Nat.pow_zero, Nat.mul_one, Nat.zero_add] at h2 h3 h4
    subst h2
    obtain ⟨hn, hk⟩ := h
    refine ⟨rest, by rw [encI, ← hn, zig_zag]; exact h1, by rw [encI, ← hn, zig_zag, ← hk]; exact h3, ?_, ?_⟩
    · rw [← hn]; unfold zag; split <;> omega
    · rw [← hn]; unfold zag; split <;> omega

theorem encI_ne (n : Int) : encI n ≠ [] := fun h => by
  have := varint_pos (zig n)
  unfold encI at h
  rw [h] at this
  simp at this
theorem encI_cut {n m : Int} {r r' : List UInt8} (hn : -9223372036854775808 ≤ n ∧ n ≤ 9223372036854775807) (hm : -9223372036854775808 ≤ m ∧ m ≤ 9223372036854775807) (h : encI n ++ r = encI m ++ r') : n = m ∧ r = r' := by
  have h1 := decI_enc hn.1 hn.2 r
  have h2 := decI_enc hm.1 hm.2 r'
  rw [h, h2] at h1
  simp only [Option.some.injEq, Prod.mk.injEq] at h1
  obtain ⟨rfl, _⟩ := h1
  exact ⟨rfl, List.append_cancel_left h⟩
def inI64 (ns : List Int) : Prop := ∀ n ∈ ns, -9223372036854775808 ≤ n ∧ n ≤ 9223372036854775807
theorem encIs_inj : ∀ {a b : List Int}, inI64 a → inI64 b → encIs a = encIs b → a = b
  | [], [], _, _, _ => rfl
  | [], m :: ms, _, _, h => by
    simp only [encIs, List.flatMap_nil, List.flatMap_cons] at h
    exact absurd (List.append_eq_nil_iff.1 h.symm).1 (encI_ne m)
  | n :: ns, [], _, _, h => by
    simp only [encIs, List.flatMap_nil, List.flatMap_cons] at h
    exact absurd (List.append_eq_nil_iff.1 h).1 (encI_ne n)
  | n :: ns, m :: ms, ha, hb, h => by
    simp only [encIs, List.flatMap_cons] at h
    obtain ⟨rfl, h2⟩ := encI_cut (ha n (List.mem_cons_self ..)) (hb m (List.mem_cons_self ..)) h
    rw [encIs_inj (fun x hx => ha x (List.mem_cons_of_mem _ hx)) (fun x hx => hb x (List.mem_cons_of_mem _ hx)) h2]
def inLen (l : List (List UInt8)) : Prop := ∀ s ∈ l, s.length ≤ 9223372036854775807
theorem encS_cut {s t r r' : List UInt8} (hs : s.length ≤ 9223372036854775807) (ht : t.length ≤ 9223372036854775807) (h : encS s ++ r = encS t ++ r') : s = t ∧ r = r' := by
  unfold encS at h
  rw [List.append_assoc, List.append_assoc] at h
  obtain ⟨h1, h2⟩ := encI_cut (by omega) (by omega) h
  exact List.append_inj h2 (by omega)
theorem encS_ne (s : List UInt8) : encS s ≠ [] := fun h => encI_ne _ (List.append_eq_nil_iff.1 h).1
theorem encSs_inj : ∀ {a b : List (List UInt8)}, inLen a → inLen b → encSs a = encSs b → a = b
  | [], [], _, _, _ => rfl
  | [], m :: ms, _, _, h => by
    simp only [encSs, List.flatMap_nil, List.flatMap_cons] at h
    exact absurd (List.append_eq_nil_iff.1 h.symm).1 (encS_ne m)
  | n :: ns, [], _, _, h => by
    simp only [encSs, List.flatMap_nil, List.flatMap_cons] at h
    exact absurd (List.append_eq_nil_iff.1 h).1 (encS_ne n)
  | n :: ns, m :: ms, ha, hb, h => by
    simp only [encSs, List.flatMap_cons] at h
    obtain ⟨rfl, h2⟩ := encS_cut (ha n (List.mem_cons_self ..)) (hb m (List.mem_cons_self ..)) h
    rw [encSs_inj (fun x hx => ha x (List.mem_cons_of_mem _ hx)) (fun x hx => hb x (List.mem_cons_of_mem _ hx)) h2]

/-! What Go's operations come to. -/
theorem bits_comm (k : IntKind) (a b : Int) : bits .xor k a b = bits .xor k b a := by
  simp only [bits, BitVec.xor_comm]
theorem and1 (u : Nat) (h : u < 18446744073709551616) : bits .and .u64 (u : Int) 1 = ((u % 2 : Nat) : Int) := by
  rw [Lib.u64_and1 _ (by omega) (by omega)]; omega
theorem zag_go (u : Nat) (h : u < 18446744073709551616) : bits .xor .i64 ((u : Int) / 2) (-((u % 2 : Nat) : Int)) = zag u := by
  have e : ((u : Int) / 2) = ((u / 2 : Nat) : Int) := by omega
  rw [e]
  unfold zag
  rcases Nat.mod_two_eq_zero_or_one u with h0 | h0
  · rw [h0, if_pos rfl]
    have hx : bits .xor .i64 ((u / 2 : Nat) : Int) (-((0 : Nat) : Int)) = IntKind.i64.wrap ((u / 2 : Nat) : Int) := by
      have h2 : (BitVec.ofInt 64 ((u / 2 : Nat) : Int)).toNat = u / 2 := by
        rw [BitVec.ofInt_natCast, BitVec.toNat_ofNat]; exact Nat.mod_eq_of_lt (by omega)
      show IntKind.i64.wrap ((BitVec.ofInt 64 ((u / 2 : Nat) : Int) ^^^ BitVec.ofInt 64 0).toNat : Int) = _
      rw [show BitVec.ofInt 64 0 = 0#64 from rfl, BitVec.xor_zero, h2]
    rw [hx, IntKind.wrap_i64]
    omega
  · rw [h0, if_neg (by omega), bits_comm]
    exact Lib.i64_not (u / 2) (by omega)
/-- A byte's lower bits, moved up and joined. -/
theorem join7 (x y c : Nat) (hx : x ≤ 9) (hy : y < 128 ^ x) (hc : c < 256) (h9 : x = 9 → c ≤ 1) :
    bits .or .u64 (y : Int) (IntKind.u64.wrap (IntKind.u64.wrap (bits .and .u8 (c : Int) 127) * 2 ^ (7 * x))) = ((y + c % 128 * 128 ^ x : Nat) : Int) := by
  have ha : bits .and .u8 (c : Int) 127 = ((c % 128 : Nat) : Int) := by
    rw [show (127 : Int) = ((127 : Nat) : Int) from rfl, u8_and_nat c 127 hc (by omega)]
    congr 1
    exact Nat.and_two_pow_sub_one_eq_mod c 7
  have hw : ∀ m, IntKind.u64.wrap m = m % 18446744073709551616 := fun m => by simp [IntKind.wrap, IntKind.bits, IntKind.signed]
  have hp : (2 : Nat) ^ (7 * x) = 128 ^ x := by rw [Nat.pow_mul]
  have hb : c % 128 * 128 ^ x < 18446744073709551616 := by
    by_cases h : x = 9
    · subst h
      have := h9 rfl
      have e : (128 : Nat) ^ 9 = 9223372036854775808 := by decide
      rw [e]; omega
    · have h8 : (128 : Nat) ^ x ≤ 128 ^ 8 := Nat.pow_le_pow_right (by omega) (by omega)
      have e : (128 : Nat) ^ 8 = 72057594037927936 := by decide
      rw [e] at h8
      have := Nat.mul_le_mul (show c % 128 ≤ 127 by omega) h8
      omega
  have h98 : (128 : Nat) ^ x ≤ 128 ^ 9 := Nat.pow_le_pow_right (by omega) hx
  have e9 : (128 : Nat) ^ 9 = 9223372036854775808 := by decide
  have e2 : IntKind.u64.wrap (IntKind.u64.wrap ((c % 128 : Nat) : Int) * 2 ^ (7 * x)) = ((c % 128 * 128 ^ x : Nat) : Int) := by
    rw [hw, hw]
    have e3 : (((c % 128 : Nat) : Int)) % 18446744073709551616 = ((c % 128 : Nat) : Int) := by omega
    have e4 : (2 : Int) ^ (7 * x) = ((128 ^ x : Nat) : Int) := by rw [← hp]; simp
    rw [e3, e4, ← Int.natCast_mul]
    omega
  rw [ha, e2, u64_or_nat _ _ (by rw [e9] at h98; omega) hb]
  congr 1
  rw [Nat.or_comm, Nat.mul_comm, Nat.add_comm]
  have hy2 : y < 2 ^ (7 * x) := by rw [hp]; exact hy
  have := Nat.two_pow_add_eq_or_of_lt hy2 (c % 128)
  rw [hp] at this
  exact this.symm

end Go.Proofs.Ytoanelahjgaojaa
