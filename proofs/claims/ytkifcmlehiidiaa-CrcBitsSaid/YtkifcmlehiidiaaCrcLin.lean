/- The check sum is linear, and no three bits of a text and its tail cancel: plain mathematics. -/
import Derived.Test.YtkifcmlehiidiaaCrcPure
namespace Go.Proofs.Ytkifcmlehiidiaa
set_option linter.unusedVariables false

theorem crcBit_lin (a b : Nat) : crcBit (a ^^^ b) = crcBit a ^^^ crcBit b := by
  have h := mod2_xor a b
  unfold crcBit
  rw [half_xor]
  by_cases ha : a % 2 = 1 <;> by_cases hb : b % 2 = 1
  · rw [if_neg (fun h' => (h.1 h') (iff_of_true ha hb)), if_pos ha, if_pos hb]
    rw [Nat.xor_assoc, ← Nat.xor_assoc 3988292384, Nat.xor_comm 3988292384 (b / 2), Nat.xor_assoc (b / 2), Nat.xor_self, Nat.xor_zero]
  · rw [if_pos (h.2 (fun h' => hb (h'.1 ha))), if_pos ha, if_neg hb, Nat.xor_assoc, Nat.xor_assoc, Nat.xor_comm (b / 2)]
  · rw [if_pos (h.2 (fun h' => ha (h'.2 hb))), if_neg ha, if_pos hb, Nat.xor_assoc]
  · rw [if_neg (fun h' => (h.1 h') (iff_of_false ha hb)), if_neg ha, if_neg hb]
theorem crcBits_lin (k a b : Nat) : crcBits k (a ^^^ b) = crcBits k a ^^^ crcBits k b := by
  induction k with
  | zero => rfl
  | succ k ih => show crcBit _ = crcBit _ ^^^ crcBit _; rw [ih, crcBit_lin]
theorem crcBits_add (i k c : Nat) : crcBits (i + k) c = crcBits i (crcBits k c) := by
  induction i with
  | zero => rw [Nat.zero_add]; rfl
  | succ i ih => rw [Nat.add_right_comm]; show crcBit _ = crcBit _; rw [ih]
theorem crcBit_inj0 {c : Nat} (h : c < 4294967296) (h0 : crcBit c = 0) : c = 0 := by
  unfold crcBit at h0
  split at h0
  · have : c / 2 = 3988292384 := by
      have e : (c / 2 ^^^ 3988292384) ^^^ 3988292384 = c / 2 := by rw [Nat.xor_assoc, Nat.xor_self, Nat.xor_zero]
      rw [h0, Nat.zero_xor] at e
      exact e.symm
    omega
  · omega
theorem crcBits_inj0 (k : Nat) {c : Nat} (h : c < 4294967296) (h0 : crcBits k c = 0) : c = 0 := by
  induction k with
  | zero => exact h0
  | succ k ih => exact ih (crcBit_inj0 (crcBits_lt k h) h0)
theorem crcBits_two (k : Nat) (h : k < 32) : crcBits (31 - k) 2147483648 = 2 ^ k := by
  revert k
  decide +kernel

theorem crcRun_lin (l : List UInt8) (c d : Nat) : crcRun (c ^^^ d) l = crcRun c l ^^^ crcBits (8 * l.length) d := by
  induction l generalizing c d with
  | nil => rfl
  | cons b l ih =>
    show crcRun (crcStep (c ^^^ d) b.toNat) l = crcRun (crcStep c b.toNat) l ^^^ _
    have e : crcStep (c ^^^ d) b.toNat = crcStep c b.toNat ^^^ crcBits 8 d := by
      unfold crcStep
      rw [Nat.xor_assoc, Nat.xor_comm d, ← Nat.xor_assoc, crcBits_lin]
    rw [e, ih, ← crcBits_add]
    rfl
theorem xor_ofNat (x : UInt8) {e : Nat} (h : e < 256) : (x ^^^ UInt8.ofNat e).toNat = x.toNat ^^^ e := by
  rw [UInt8.toNat_xor, UInt8.toNat_ofNat', Nat.mod_eq_of_lt h]
theorem crcRun_turn (l : List UInt8) (c p e : Nat) (hp : p < l.length) (he : e < 256) :
    crcRun c (l.modify p (· ^^^ UInt8.ofNat e)) = crcRun c l ^^^ crcBits (8 * (l.length - p)) e := by
  induction l generalizing c p with
  | nil => simp at hp
  | cons b l ih =>
    cases p with
    | zero =>
      show crcRun (crcStep c (b ^^^ UInt8.ofNat e).toNat) l = _
      rw [xor_ofNat b he]
      have e1 : crcStep c (b.toNat ^^^ e) = crcStep c b.toNat ^^^ crcBits 8 e := by
        unfold crcStep
        rw [← Nat.xor_assoc, crcBits_lin]
      rw [e1, crcRun_lin, ← crcBits_add]
      rfl
    | succ p =>
      have hp' : p < l.length := by simpa using hp
      show crcRun (crcStep c b.toNat) (l.modify p (· ^^^ UInt8.ofNat e)) = _
      rw [ih _ p hp']
      show _ = crcRun (crcStep c b.toNat) l ^^^ crcBits (8 * (l.length + 1 - (p + 1))) e
      rw [Nat.add_sub_add_right]

/-- Four bytes as a number. -/
def crcBe : List UInt8 → Nat
  | [a, b, c, d] => a.toNat <<< 24 ^^^ b.toNat <<< 16 ^^^ c.toNat <<< 8 ^^^ d.toNat
  | _ => 0
theorem split_xor (x y k : Nat) (h : y < 2 ^ k) : x <<< k ^^^ y = x * 2 ^ k + y := by
  apply Nat.eq_of_testBit_eq
  intro i
  rw [Nat.testBit_xor, Nat.testBit_shiftLeft, Nat.mul_comm, Nat.testBit_two_pow_mul_add _ h]
  by_cases hi : i < k
  · simp [hi, Nat.not_le.2 hi]
  · have : y.testBit i = false := Nat.testBit_lt_two_pow (Nat.lt_of_lt_of_le h (Nat.pow_le_pow_right (by omega) (by omega)))
    simp [hi, Nat.not_lt.1 hi, this]
theorem crcBe_tail (x : Nat) (h : x < 4294967296) : crcBe (crcTail x) = x := by
  simp only [crcTail, crcBe, UInt8.toNat_ofNat']
  have h1 := split_xor (x / 256 % 2 ^ 8) (x % 2 ^ 8) 8 (by omega)
  rw [Nat.xor_assoc, Nat.xor_assoc, h1]
  have h2 := split_xor (x / 65536 % 2 ^ 8) (x / 256 % 2 ^ 8 * 2 ^ 8 + x % 2 ^ 8) 16 (by omega)
  rw [h2, split_xor _ _ 24 (by omega)]
  omega
theorem crcBe_mk (a b c d : UInt8) : crcBe [a, b, c, d] = a.toNat <<< 24 ^^^ b.toNat <<< 16 ^^^ c.toNat <<< 8 ^^^ d.toNat := rfl
theorem xor5a (a b c d e : Nat) : (a ^^^ e) ^^^ b ^^^ c ^^^ d = a ^^^ b ^^^ c ^^^ d ^^^ e := by ac_rfl
theorem xor5b (a b c d e : Nat) : a ^^^ (b ^^^ e) ^^^ c ^^^ d = a ^^^ b ^^^ c ^^^ d ^^^ e := by ac_rfl
theorem xor5c (a b c d e : Nat) : a ^^^ b ^^^ (c ^^^ e) ^^^ d = a ^^^ b ^^^ c ^^^ d ^^^ e := by ac_rfl
theorem xor5d (a b c d e : Nat) : a ^^^ b ^^^ c ^^^ (d ^^^ e) = a ^^^ b ^^^ c ^^^ d ^^^ e := by ac_rfl
theorem list4 {α} (t : List α) (h : t.length = 4) : ∃ a b c d, t = [a, b, c, d] := by
  match t, h with
  | [a, b, c, d], _ => exact ⟨a, b, c, d, rfl⟩
theorem crcBe_turn (t : List UInt8) (q e : Nat) (ht : t.length = 4) (hq : q < 4) (he : e < 256) :
    crcBe (t.modify q (· ^^^ UInt8.ofNat e)) = crcBe t ^^^ e <<< (8 * (3 - q)) := by
  obtain ⟨a, b, c, d, rfl⟩ := list4 t ht
  obtain h | h | h | h : q = 0 ∨ q = 1 ∨ q = 2 ∨ q = 3 := by omega
  all_goals subst h
  · rw [show 8 * (3 - 0) = 24 from rfl, crcBe_mk, List.modify_zero_cons, crcBe_mk, xor_ofNat a he, Nat.shiftLeft_xor_distrib]
    exact xor5a _ _ _ _ _
  · rw [show 8 * (3 - 1) = 16 from rfl, crcBe_mk, List.modify_succ_cons, List.modify_zero_cons, crcBe_mk, xor_ofNat b he, Nat.shiftLeft_xor_distrib]
    exact xor5b _ _ _ _ _
  · rw [show 8 * (3 - 2) = 8 from rfl, crcBe_mk, List.modify_succ_cons, List.modify_succ_cons, List.modify_zero_cons, crcBe_mk, xor_ofNat c he, Nat.shiftLeft_xor_distrib]
    exact xor5c _ _ _ _ _
  · rw [show 8 * (3 - 3) = 0 from rfl, crcBe_mk, List.modify_succ_cons, List.modify_succ_cons, List.modify_succ_cons, List.modify_zero_cons, crcBe_mk, xor_ofNat d he, Nat.shiftLeft_zero]
    exact xor5d _ _ _ _ _

/-- What a text and its tail come to. -/
def crcSyn (t : List UInt8) : Nat := crcRun 4294967295 (t.take (t.length - 4)) ^^^ crcBe (t.drop (t.length - 4))
theorem not32 (x : Nat) (h : x < 4294967296) : x ^^^ (4294967295 - x) = 4294967295 := by
  have h1 : (4294967295 : Nat) = 2 ^ 32 - 1 := rfl
  apply Nat.eq_of_testBit_eq
  intro i
  rw [Nat.testBit_xor, h1, Nat.testBit_two_pow_sub_one, show 2 ^ 32 - 1 - x = 2 ^ 32 - (x + 1) by omega, Nat.testBit_two_pow_sub_succ (by omega)]
  by_cases hi : i < 32
  · simp [hi]
  · have : x.testBit i = false := Nat.testBit_lt_two_pow (Nat.lt_of_lt_of_le h (Nat.pow_le_pow_right (by omega : 0 < 2) (by omega : 32 ≤ i)))
    simp [hi, this]
theorem crcSyn_good (t : List UInt8) (h : crcGood t = true) : crcSyn t = 4294967295 := by
  simp only [crcGood, Bool.and_eq_true, decide_eq_true_eq, beq_iff_eq] at h
  unfold crcSyn
  rw [← h.2, crcBe_tail _ (crcOf_lt _), crcOf]
  exact not32 _ (crcRun_lt _ (by omega))

/-- Where a bit stands in the division. -/
def crcPos (n k : Nat) : Nat := if k / 8 + 4 < n then 8 * (n - k / 8) - 1 - k % 8 else 8 * (k / 8 + 4 - n) + 7 - k % 8
def turnBit (t : List UInt8) (k : Nat) : List UInt8 := t.modify (k / 8) (· ^^^ UInt8.ofNat (2 ^ (k % 8)))
theorem turnBit_len (t : List UInt8) (k : Nat) : (turnBit t k).length = t.length := by simp [turnBit]
theorem pow_lt8 (k : Nat) : 2 ^ (k % 8) < 256 := Nat.lt_of_le_of_lt (Nat.pow_le_pow_right (by omega) (show k % 8 ≤ 7 by omega)) (by decide)
theorem take_modify {α} (l : List α) (f : α → α) (n p : Nat) : (l.modify p f).take n = if p < n then (l.take n).modify p f else l.take n := by
  induction l generalizing n p with
  | nil => simp
  | cons a l ih =>
    cases n with
    | zero => simp
    | succ n =>
      cases p with
      | zero => simp
      | succ p =>
        have := ih n p
        simp only [List.modify_succ_cons, List.take_succ_cons, this, Nat.add_lt_add_iff_right]
        split <;> rfl
theorem drop_modify {α} (l : List α) (f : α → α) (n p : Nat) : (l.modify p f).drop n = if p < n then l.drop n else (l.drop n).modify (p - n) f := by
  induction l generalizing n p with
  | nil => simp
  | cons a l ih =>
    cases n with
    | zero => simp
    | succ n =>
      cases p with
      | zero => simp
      | succ p =>
        have := ih n p
        simp only [List.modify_succ_cons, List.drop_succ_cons, this, Nat.add_lt_add_iff_right, Nat.add_sub_add_right]
theorem crcSyn_turn (t : List UInt8) (k : Nat) (h4 : 4 ≤ t.length) (hk : k < 8 * t.length) : crcSyn (turnBit t k) = crcSyn t ^^^ crcBits (crcPos t.length k) 2147483648 := by
  have he := pow_lt8 k
  have hp : k / 8 < t.length := by omega
  unfold crcSyn
  rw [turnBit_len, turnBit, take_modify, drop_modify, crcPos]
  by_cases hb : k / 8 < t.length - 4
  · rw [if_pos hb, if_pos hb, if_pos (by omega), crcRun_turn _ _ _ _ (by rw [List.length_take]; omega) he, List.length_take, Nat.min_eq_left (by omega)]
    rw [← crcBits_two (k % 8) (by omega), ← crcBits_add, show 8 * (t.length - 4 - k / 8) + (31 - k % 8) = 8 * (t.length - k / 8) - 1 - k % 8 by omega]
    ac_rfl
  · rw [if_neg hb, if_neg hb, if_neg (by omega), crcBe_turn _ _ _ (by rw [List.length_drop]; omega) (by omega) he]
    have e : 2 ^ (k % 8) <<< (8 * (3 - (k / 8 - (t.length - 4)))) = crcBits (8 * (k / 8 + 4 - t.length) + 7 - k % 8) 2147483648 := by
      rw [Nat.shiftLeft_eq, ← Nat.pow_add, show 8 * (k / 8 + 4 - t.length) + 7 - k % 8 = 31 - (k % 8 + 8 * (3 - (k / 8 - (t.length - 4)))) by omega]
      exact (crcBits_two _ (by omega)).symm
    rw [e]
    ac_rfl

/-! ### The columns are far apart -/
inductive BT where
  | nil
  | node (l : BT) (x : Nat) (r : BT)
def BT.ins (x : Nat) : BT → Option BT
  | .nil => some (.node .nil x .nil)
  | .node l y r => cond (Nat.beq x y) none (cond (Nat.ble x y) (match BT.ins x l with | none => none | some l' => some (.node l' y r)) (match BT.ins x r with | none => none | some r' => some (.node l y r')))
def BT.Mem (z : Nat) : BT → Prop
  | .nil => False
  | .node l y r => BT.Mem z l ∨ z = y ∨ BT.Mem z r
def BT.Ord : BT → Prop
  | .nil => True
  | .node l y r => BT.Ord l ∧ BT.Ord r ∧ (∀ z, BT.Mem z l → z < y) ∧ (∀ z, BT.Mem z r → y < z)
theorem BT.ins_spec (x : Nat) : ∀ (t t' : BT), BT.Ord t → BT.ins x t = some t' → ¬ BT.Mem x t ∧ BT.Ord t' ∧ ∀ z, BT.Mem z t' ↔ z = x ∨ BT.Mem z t
  | .nil, t', _, h => by
    simp only [BT.ins, Option.some.injEq] at h
    subst h
    simp [BT.Mem, BT.Ord]
  | .node l y r, t', ho, h => by
    obtain ⟨hl, hr, hly, hry⟩ := ho
    simp only [BT.ins] at h
    by_cases h1 : Nat.beq x y = true
    · rw [h1] at h; cases h
    · have h1' : Nat.beq x y = false := Bool.eq_false_iff.2 h1
      have hne : x ≠ y := fun e => h1 (by rw [e]; exact Nat.beq_refl y)
      rw [h1', cond_false] at h
      by_cases h2 : Nat.ble x y = true
      · rw [h2, cond_true] at h
        have hlt : x < y := by have := Nat.le_of_ble_eq_true h2; omega
        cases hi : BT.ins x l with
        | none => rw [hi] at h; cases h
        | some l' =>
          rw [hi] at h
          simp only [Option.some.injEq] at h
          subst h
          obtain ⟨k1, k2, k3⟩ := BT.ins_spec x l l' hl hi
          refine ⟨?_, ⟨k2, hr, ?_, hry⟩, ?_⟩
          · rintro (h | h | h)
            · exact k1 h
            · exact hne h
            · have := hry _ h; omega
          · intro z hz
            rcases (k3 z).1 hz with h | h
            · omega
            · exact hly z h
          · intro z
            simp only [BT.Mem, k3]
            constructor
            · rintro ((h | h) | h | h)
              · exact .inl h
              · exact .inr (.inl h)
              · exact .inr (.inr (.inl h))
              · exact .inr (.inr (.inr h))
            · rintro (h | h | h | h)
              · exact .inl (.inl h)
              · exact .inl (.inr h)
              · exact .inr (.inl h)
              · exact .inr (.inr h)
      · have h2' : Nat.ble x y = false := Bool.eq_false_iff.2 h2
        rw [h2', cond_false] at h
        have hlt : y < x := by
          rcases Nat.lt_or_ge y x with h | h
          · exact h
          · exact absurd (Nat.ble_eq_true_of_le h) h2
        cases hi : BT.ins x r with
        | none => rw [hi] at h; cases h
        | some r' =>
          rw [hi] at h
          simp only [Option.some.injEq] at h
          subst h
          obtain ⟨k1, k2, k3⟩ := BT.ins_spec x r r' hr hi
          refine ⟨?_, ⟨hl, k2, hly, ?_⟩, ?_⟩
          · rintro (h | h | h)
            · have := hly _ h; omega
            · exact hne h
            · exact k1 h
          · intro z hz
            rcases (k3 z).1 hz with h | h
            · omega
            · exact hry z h
          · intro z
            simp only [BT.Mem, k3]
            constructor
            · rintro (h | h | h | h)
              · exact .inr (.inl h)
              · exact .inr (.inr (.inl h))
              · exact .inl h
              · exact .inr (.inr (.inr h))
            · rintro (h | h | h | h)
              · exact .inr (.inr (.inl h))
              · exact .inl h
              · exact .inr (.inl h)
              · exact .inr (.inr (.inr h))

/-- A number is reckoned out before it is handed on. -/
def forced {α : Type} : Nat → (Nat → α) → α
  | 0, k => k 0
  | n + 1, k => k (n + 1)
theorem forced_eq {α : Type} (n : Nat) (k : Nat → α) : forced n k = k n := by cases n <;> rfl
structure CS where
  v : Nat
  t : BT
def CS.step (s : CS) : Option CS := match s with
  | ⟨v, t⟩ => forced (Nat.mod v 2147483648) fun x => match BT.ins x t with
    | none => none
    | some t' => forced (crcBit v) fun v' => some ⟨v', t'⟩
def runs (f : CS → Option CS) : Nat → CS → Option CS
  | 0, s => some s
  | n + 1, s => match runs f n s with
    | none => none
    | some s' => f s'
def CInv (n : Nat) (s : CS) : Prop := s.v = crcBits n 2147483648 ∧ BT.Ord s.t ∧ (∀ z, BT.Mem z s.t ↔ ∃ i, i < n ∧ z = crcBits i 2147483648 % 2147483648) ∧
  ∀ i, i < n → ∀ j, j < i → crcBits i 2147483648 % 2147483648 ≠ crcBits j 2147483648 % 2147483648
theorem CS.step_inv (n : Nat) (s s' : CS) (h : CInv n s) (hs : s.step = some s') : CInv (n + 1) s' := by
  obtain ⟨v, t⟩ := s
  obtain ⟨h1, h2, h3, h4⟩ := h
  simp only [CS.step, forced_eq] at hs
  cases hi : BT.ins (Nat.mod v 2147483648) t with
  | none => rw [hi] at hs; cases hs
  | some t' =>
    rw [hi] at hs
    simp only [Option.some.injEq] at hs
    subst hs
    simp only at h1 h2 h3
    obtain ⟨k1, k2, k3⟩ := BT.ins_spec _ _ _ h2 hi
    have hx : Nat.mod v 2147483648 = crcBits n 2147483648 % 2147483648 := by rw [← h1]; rfl
    rw [hx] at k1 k3
    refine ⟨by show crcBit v = crcBit _; rw [h1], k2, ?_, ?_⟩
    · intro z
      rw [k3, h3]
      constructor
      · rintro (h | ⟨i, hi, h⟩)
        · exact ⟨n, by omega, h⟩
        · exact ⟨i, by omega, h⟩
      · rintro ⟨i, hi, h⟩
        by_cases e : i = n
        · subst e; exact .inl h
        · exact .inr ⟨i, by omega, h⟩
    · intro i hi j hj
      by_cases e : i = n
      · subst e
        intro h
        exact k1 ((h3 _).2 ⟨j, hj, h⟩)
      · exact h4 i (by omega) j hj
theorem runs_inv (f : CS → Option CS) (m : Nat) (hf : ∀ n s s', CInv n s → f s = some s' → CInv (n + m) s') : ∀ (k n : Nat) (s s' : CS), CInv n s → runs f k s = some s' → CInv (n + k * m) s'
  | 0, n, s, s', h, hr => by
    simp only [runs, Option.some.injEq] at hr
    subst hr
    simpa using h
  | k + 1, n, s, s', h, hr => by
    simp only [runs] at hr
    cases hk : runs f k s with
    | none => rw [hk] at hr; cases hr
    | some s1 =>
      rw [hk] at hr
      have := hf _ _ _ (runs_inv f m hf k n s s1 h hk) hr
      rw [Nat.add_assoc] at this
      rw [Nat.succ_mul]
      exact this
theorem cols_run : (runs (runs CS.step 32) 101 ⟨2147483648, .nil⟩).isSome = true := by decide +kernel
theorem cols_far (i j : Nat) (hi : i < 3232) (hj : j < i) : crcBits i 2147483648 % 2147483648 ≠ crcBits j 2147483648 % 2147483648 := by
  have h := cols_run
  cases hr : runs (runs CS.step 32) 101 ⟨2147483648, .nil⟩ with
  | none => rw [hr] at h; cases h
  | some s =>
    have h0 : CInv 0 ⟨2147483648, .nil⟩ := ⟨rfl, trivial, fun z => ⟨fun h => h.elim, fun ⟨i, hi, _⟩ => by omega⟩, fun i hi => by omega⟩
    have h1 := runs_inv (runs CS.step 32) 32 (fun n s s' h h2 => by
      have := runs_inv CS.step 1 (fun n s s' h h2 => CS.step_inv n s s' h h2) 32 n s s' h h2
      simpa using this) 101 0 _ s h0 hr
    exact h1.2.2.2 i hi j hj

theorem col_ne0 (i : Nat) : crcBits i 2147483648 ≠ 0 := fun h => absurd (crcBits_inj0 i (by omega) h) (by omega)
theorem col_lt (i : Nat) : crcBits i 2147483648 < 4294967296 := crcBits_lt i (by omega)
theorem col2_lt {i j : Nat} (hj : j < 3232) (h : i < j) : crcBits i 2147483648 ^^^ crcBits j 2147483648 ≠ 0 := fun h0 => by
  have : crcBits j 2147483648 = crcBits i 2147483648 := by
    have e : crcBits i 2147483648 ^^^ (crcBits i 2147483648 ^^^ crcBits j 2147483648) = crcBits j 2147483648 := by rw [← Nat.xor_assoc, Nat.xor_self, Nat.zero_xor]
    rw [h0, Nat.xor_zero] at e
    exact e.symm
  exact cols_far j i hj h (by rw [this])
theorem col2 {i j : Nat} (hi : i < 3232) (hj : j < 3232) (h : i ≠ j) : crcBits i 2147483648 ^^^ crcBits j 2147483648 ≠ 0 := by
  rcases Nat.lt_or_ge i j with h' | h'
  · exact col2_lt hj h'
  · rw [Nat.xor_comm]; exact col2_lt hi (by omega)
theorem col3_lt {i j k : Nat} (hk : k < 3232) (h : i < j) (h' : j < k) : crcBits i 2147483648 ^^^ crcBits j 2147483648 ^^^ crcBits k 2147483648 ≠ 0 := fun h0 => by
  obtain ⟨b, rfl⟩ : ∃ b, j = i + b := ⟨j - i, by omega⟩
  obtain ⟨c, rfl⟩ : ∃ c, k = i + c := ⟨k - i, by omega⟩
  rw [crcBits_add, crcBits_add, ← crcBits_lin, ← crcBits_lin] at h0
  have h1 := crcBits_inj0 i (xor_lt 32 (xor_lt 32 (by omega) (col_lt b)) (col_lt c)) h0
  have h2 : crcBits c 2147483648 = 2147483648 ^^^ crcBits b 2147483648 := by
    have e : (2147483648 ^^^ crcBits b 2147483648) ^^^ ((2147483648 ^^^ crcBits b 2147483648) ^^^ crcBits c 2147483648) = crcBits c 2147483648 := by rw [← Nat.xor_assoc, Nat.xor_self, Nat.zero_xor]
    rw [h1, Nat.xor_zero] at e
    exact e.symm
  refine cols_far c b (by omega) (by omega) ?_
  have e : (2147483648 : Nat) = 2 ^ 31 := rfl
  rw [h2, e, Nat.xor_mod_two_pow, Nat.mod_self, Nat.zero_xor]
theorem col3 {i j k : Nat} (hi : i < 3232) (hj : j < 3232) (hk : k < 3232) (h1 : i ≠ j) (h2 : i ≠ k) (h3 : j ≠ k) : crcBits i 2147483648 ^^^ crcBits j 2147483648 ^^^ crcBits k 2147483648 ≠ 0 := by
  have hc : (i < j ∧ j < k) ∨ (i < k ∧ k < j) ∨ (j < i ∧ i < k) ∨ (j < k ∧ k < i) ∨ (k < i ∧ i < j) ∨ (k < j ∧ j < i) := by omega
  rcases hc with h | h | h | h | h | h
  · exact col3_lt hk h.1 h.2
  · have := col3_lt hj h.1 h.2; rw [show crcBits i 2147483648 ^^^ crcBits j 2147483648 ^^^ crcBits k 2147483648 = crcBits i 2147483648 ^^^ crcBits k 2147483648 ^^^ crcBits j 2147483648 by ac_rfl]; exact this
  · have := col3_lt hk h.1 h.2; rw [show crcBits i 2147483648 ^^^ crcBits j 2147483648 ^^^ crcBits k 2147483648 = crcBits j 2147483648 ^^^ crcBits i 2147483648 ^^^ crcBits k 2147483648 by ac_rfl]; exact this
  · have := col3_lt hi h.1 h.2; rw [show crcBits i 2147483648 ^^^ crcBits j 2147483648 ^^^ crcBits k 2147483648 = crcBits j 2147483648 ^^^ crcBits k 2147483648 ^^^ crcBits i 2147483648 by ac_rfl]; exact this
  · have := col3_lt hj h.1 h.2; rw [show crcBits i 2147483648 ^^^ crcBits j 2147483648 ^^^ crcBits k 2147483648 = crcBits k 2147483648 ^^^ crcBits i 2147483648 ^^^ crcBits j 2147483648 by ac_rfl]; exact this
  · have := col3_lt hi h.1 h.2; rw [show crcBits i 2147483648 ^^^ crcBits j 2147483648 ^^^ crcBits k 2147483648 = crcBits k 2147483648 ^^^ crcBits j 2147483648 ^^^ crcBits i 2147483648 by ac_rfl]; exact this

theorem crcPos_lt {n k : Nat} (hn : n ≤ 404) (hk : k < 8 * n) (h4 : 4 ≤ n) : crcPos n k < 3232 := by unfold crcPos; split <;> omega
theorem crcPos_inj {n k k' : Nat} (hk : k < 8 * n) (hk' : k' < 8 * n) (h4 : 4 ≤ n) (h : k ≠ k') : crcPos n k ≠ crcPos n k' := by
  unfold crcPos; split <;> split <;> omega

/-- Up to three bits turned: the text doesn't check. -/
theorem crc_turned (t : List UInt8) (ks : List Nat) (h4 : 4 ≤ t.length) (hn : t.length ≤ 404) (hg : crcGood t = true) (hk : ∀ k ∈ ks, k < 8 * t.length) (hd : ks.Nodup) (h1 : 1 ≤ ks.length) (h3 : ks.length ≤ 3) :
    crcGood (ks.foldl turnBit t) = false := by
  rw [← Bool.not_eq_true]
  intro hg2
  have hs := crcSyn_good _ hg2
  have key : ∀ a, crcSyn t ^^^ a = 4294967295 → a = 0 := fun a h => by
    rw [crcSyn_good t hg] at h
    have e : 4294967295 ^^^ (4294967295 ^^^ a) = a := by rw [← Nat.xor_assoc, Nat.xor_self, Nat.zero_xor]
    rw [h, Nat.xor_self] at e
    exact e.symm
  match ks, h1, h3 with
  | [a], _, _ =>
    simp only [List.foldl_cons, List.foldl_nil] at hs
    have ha := hk a (by simp)
    rw [crcSyn_turn t a h4 ha] at hs
    exact col_ne0 _ (key _ hs)
  | [a, b], _, _ =>
    simp only [List.foldl_cons, List.foldl_nil] at hs
    have ha := hk a (by simp)
    have hb := hk b (by simp)
    have hab : a ≠ b := by simpa using hd
    rw [crcSyn_turn _ b (by rw [turnBit_len]; exact h4) (by rw [turnBit_len]; exact hb), turnBit_len, crcSyn_turn t a h4 ha, Nat.xor_assoc] at hs
    exact col2 (crcPos_lt hn ha h4) (crcPos_lt hn hb h4) (crcPos_inj ha hb h4 hab) (key _ hs)
  | [a, b, c], _, _ =>
    simp only [List.foldl_cons, List.foldl_nil] at hs
    have ha := hk a (by simp)
    have hb := hk b (by simp)
    have hc := hk c (by simp)
    have hd' : (a ≠ b ∧ a ≠ c) ∧ b ≠ c := by simpa using hd
    obtain ⟨⟨hab, hac⟩, hbc⟩ := hd'
    rw [crcSyn_turn _ c (by rw [turnBit_len, turnBit_len]; exact h4) (by rw [turnBit_len, turnBit_len]; exact hc), turnBit_len, turnBit_len, crcSyn_turn _ b (by rw [turnBit_len]; exact h4) (by rw [turnBit_len]; exact hb), turnBit_len, crcSyn_turn t a h4 ha, Nat.xor_assoc, Nat.xor_assoc, ← Nat.xor_assoc (crcBits _ _)] at hs
    exact col3 (crcPos_lt hn ha h4) (crcPos_lt hn hb h4) (crcPos_lt hn hc h4) (crcPos_inj ha hb h4 hab) (crcPos_inj ha hc h4 hac) (crcPos_inj hb hc h4 hbc) (key _ hs)

end Go.Proofs.Ytkifcmlehiidiaa
