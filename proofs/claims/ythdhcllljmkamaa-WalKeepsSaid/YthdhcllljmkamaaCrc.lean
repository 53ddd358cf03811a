/- The walks of package crc and of its reference. -/
import Derived.Test.YthdhcllljmkamaaProg
import Derived.Test.YthdhcllljmkamaaCrcPure
import Derived.Test.YthdhcllljmkamaaKit
namespace Go.Proofs.Ythdhcllljmkamaa
open Go.RowKit
set_option linter.unusedVariables false

theorem crcBits_succ (k c : Nat) : crcBits (k + 1) c = crcBit (crcBits k c) := rfl

set_option maxHeartbeats 400000 in
theorem crc_step (c b : Nat) (w : World) (hc : c < 4294967296) (hb : b < 256) :
    Calls Try.prog 52 #[.int .u32 (c : Int), .int .u8 (b : Int)] w fun e w' => e = .returned (.int .u32 (crcStep c b : Nat)) ∧ w = w' := by
  have hx : bits .xor .u32 (c : Int) (b : Int) = ((c ^^^ b : Nat) : Int) := u32_xor_nat c b hc (by omega)
  go_enter Try.func52, Try.ntmps52
  go_wp2
  clear hx
  go_loop [0, 9] (fun x i => ∃ k : Nat, k ≤ 8 ∧ i = .int .i64 k ∧ x = .int .u32 (crcBits k (c ^^^ b) : Nat)) (fun _ i => (8 - intOf i).toNat)
  case atStart => exact ⟨0, by omega, rfl, rfl⟩
  case round =>
    obtain ⟨k, hk, rfl, rfl⟩ := hrel
    by_cases hlt : k < 8
    · have hl : crcBits k (c ^^^ b) < 4294967296 := crcBits_lt k (xor_lt 32 hc (by omega))
      have hs := crcBits_succ k (c ^^^ b)
      have HS := Lib.hid hs
      clear hs
      generalize crcBits k (c ^^^ b) = x at *
      have ha : bits .and .u32 (x : Int) 1 = ((x % 2 : Nat) : Int) := by
        have := u32_and_nat x 1 hl (by omega)
        rw [Nat.and_one_is_mod] at this
        exact this
      by_cases h1 : x % 2 = 1
      · have hb1 : (((x % 2 : Nat) : Int) == 1) = true := by rw [h1]; rfl
        have hx : bits .xor .u32 ((x : Int) / 2) 3988292384 = ((x / 2 ^^^ 3988292384 : Nat) : Int) := by
          have := u32_xor_nat (x / 2) 3988292384 (by omega) (by omega)
          exact this
        go_wp2
        go_round
        case rel => exact ⟨k + 1, by omega, by go_num, by rw [HS.out, crcBit, if_pos h1]⟩
        case measure => simp [intOf]; omega
      · have hb1 : (((x % 2 : Nat) : Int) == 1) = false := by rw [show x % 2 = 0 by omega]; rfl
        go_wp2
        go_round
        case rel => exact ⟨k + 1, by omega, by go_num, by rw [HS.out, crcBit, if_neg h1]; rfl⟩
        case measure => simp [intOf]; omega
    · obtain rfl : k = 8 := by omega
      go_wp2
      go_ret
      exact ⟨rfl, rfl⟩

theorem crc_not (x : Nat) (h : x < 4294967296) : 4294967295 ^^^ x = 4294967295 - x := by
  have h1 : (4294967295 : Nat) = 2 ^ 32 - 1 := rfl
  apply Nat.eq_of_testBit_eq
  intro i
  rw [Nat.testBit_xor, h1, Nat.testBit_two_pow_sub_one, show 2 ^ 32 - 1 - x = 2 ^ 32 - (x + 1) by omega, Nat.testBit_two_pow_sub_succ (by omega)]
  by_cases hi : i < 32
  · simp [hi]
  · have : x.testBit i = false := Nat.testBit_lt_two_pow (Nat.lt_of_lt_of_le h (Nat.pow_le_pow_right (by omega : 0 < 2) (by omega : 32 ≤ i)))
    simp [hi, this]
def crcRuns (c : Nat) (ps : List ByteArray) : Nat := ps.foldl (fun c s => crcRun c s.data.toList) c
theorem crcRuns_lt (ps : List ByteArray) {c : Nat} (h : c < 4294967296) : crcRuns c ps < 4294967296 := by
  induction ps generalizing c with
  | nil => exact h
  | cons s l ih => exact ih (crcRun_lt _ h)
theorem crcRuns_succ (c : Nat) (ps : List ByteArray) (k : Nat) (h : k < ps.length) : crcRuns c (ps.take (k + 1)) = crcRun (crcRuns c (ps.take k)) ps[k].data.toList := by
  rw [List.take_succ_eq_append_getElem h]; simp only [crcRuns, List.foldl_append, List.foldl_cons, List.foldl_nil]
theorem take_snoc (s : ByteArray) (k : Nat) (h : k < s.size) : s.data.toList.take (k + 1) = s.data.toList.take k ++ [s[k]] := by
  rw [List.take_succ_eq_append_getElem (by simpa using h)]; rfl
theorem crcRun_succ (c : Nat) (s : ByteArray) (k : Nat) (h : k < s.size) : crcRun c (s.data.toList.take (k + 1)) = crcStep (crcRun c (s.data.toList.take k)) s[k].toNat := by
  rw [take_snoc s k h, crcRun_append]; rfl

set_option maxHeartbeats 400000 in
theorem crc_of (ps : List ByteArray) (b cap : Nat) (w : World) (hn : ps.length ≤ maxLen) (hs : ∀ s ∈ ps, s.size ≤ maxLen)
    (hc : ∀ i (h : i < ps.length), w.cell? ⟨b, i, none⟩ = some (.string ps[i])) :
    Calls Try.prog 51 #[.slice (some ⟨b, 0, none⟩) ps.length cap] w fun e w' => e = .returned (.int .u32 (4294967295 - crcRuns 4294967295 ps : Nat)) ∧ w = w' := by
  unfold maxLen at hn
  have HC := Lib.hid hc
  clear hc
  go_enter Try.func51, Try.ntmps51
  go_wp2
  go_loop [3, 9] (fun x i => ∃ k : Nat, k ≤ ps.length ∧ i = .int .i64 k ∧ x = .int .u32 (crcRuns 4294967295 (ps.take k) : Nat)) (fun _ i => (ps.length - intOf i).toNat)
  case atStart => exact ⟨0, by omega, rfl, rfl⟩
  case round =>
    obtain ⟨k, hk, rfl, rfl⟩ := hrel
    by_cases hlt : k < ps.length
    · have hcell := HC.out k hlt
      have hl : crcRuns 4294967295 (ps.take k) < 4294967296 := crcRuns_lt _ (by omega)
      have HS := Lib.hid (crcRuns_succ 4294967295 ps k hlt)
      have hz : ps[k].size ≤ maxLen := hs _ (List.getElem_mem hlt)
      unfold maxLen at hz
      generalize crcRuns 4294967295 (ps.take k) = x at *
      generalize ps[k] = s at *
      go_wp2
      go_loop [3, 15] (fun y j => ∃ m : Nat, m ≤ s.size ∧ j = .int .i64 m ∧ y = .int .u32 (crcRun x (s.data.toList.take m) : Nat)) (fun _ j => (s.size - intOf j).toNat)
      case atStart => exact ⟨0, by omega, rfl, rfl⟩
      case round =>
        obtain ⟨m, hm, rfl, rfl⟩ := hrel
        by_cases hlm : m < s.size
        · have hl2 : crcRun x (s.data.toList.take m) < 4294967296 := crcRun_lt _ hl
          have HS2 := Lib.hid (crcRun_succ x s m hlm)
          generalize crcRun x (s.data.toList.take m) = y at *
          go_wp2_with ((refine (crc_step y s[m].toNat _ hl2 s[m].toNat_lt).mono ?_); rintro e w' ⟨rfl, rfl⟩)
          go_round
          case rel => exact ⟨m + 1, by omega, by go_num, by rw [HS2.out]⟩
          case measure => simp [intOf]; omega
        · obtain rfl : m = s.size := by omega
          go_wp2
          go_round
          case rel => exact ⟨k + 1, by omega, by go_num, by rw [HS.out, List.take_of_length_le (by simp)]⟩
          case measure => simp [intOf]; omega
    · obtain rfl : k = ps.length := by omega
      have hl : crcRuns 4294967295 (ps.take ps.length) < 4294967296 := crcRuns_lt _ (by omega)
      rw [List.take_length] at hl
      have hx := u32_xor_nat 4294967295 _ (by omega) hl
      have hx2 : (4294967295 ^^^ crcRuns 4294967295 ps : Nat) = 4294967295 - crcRuns 4294967295 ps := crc_not _ hl
      have HX := Lib.hid (hx.trans (congrArg Nat.cast hx2))
      clear hx hx2
      go_wp2
      go_ret
      refine ⟨?_, rfl⟩
      show Ending.returned (Value.int .u32 (bits .xor .u32 4294967295 _)) = _
      exact congrArg (fun n => Ending.returned (Value.int .u32 n)) HX.out

theorem u8_cast (c : Nat) : UInt8.ofNat ((c : Int) % 256).toNat = UInt8.ofNat c := by
  apply UInt8.toNat_inj.1
  simp
  omega
theorem crcTail_bytes (c : Nat) (h : c < 4294967296) : strOfNums [(c : Int) / 16777216, (c : Int) / 65536 % 256, (c : Int) / 256 % 256, (c : Int) % 256] = ⟨(crcTail c).toArray⟩ := by
  have h1 : (c : Int) / 16777216 = ((c / 16777216 : Nat) : Int) % 256 := by omega
  have h2 : (c : Int) / 65536 = ((c / 65536 : Nat) : Int) := by omega
  have h3 : (c : Int) / 256 = ((c / 256 : Nat) : Int) := by omega
  rw [h1, h2, h3]
  simp only [strOfNums, crcTail, List.map_cons, List.map_nil, u8_cast]
set_option maxHeartbeats 400000 in
theorem crc_tail (c : Nat) (w : World) (hc : c < 4294967296) :
    Calls Try.prog 50 #[.int .u32 (c : Int)] w fun e w' => e = .returned (.string ⟨(crcTail c).toArray⟩) ∧ Below w.heap.size w w' := by
  have hcv := fun w a b c d => conv_new4 (P := Try.prog) Try.underlying45 Try.underlying5 Try.underlying9 w a b c d
  go_enter Try.func50, Try.ntmps50
  go_wp2
  go_ret
  exact ⟨ret_str (crcTail_bytes c hc), (Below.refl _ _).alloc (Nat.le_refl _) _⟩

theorem ba_cons {a : Int} {b : UInt8} (h : UInt8.ofNat a.toNat = b) (l : List UInt8) : strOfNums [a] ++ (⟨l.toArray⟩ : ByteArray) = ⟨(b :: l).toArray⟩ := by
  subst h
  apply ByteArray.ext
  rw [ByteArray.data_append]
  simp [strOfNums]
theorem crcTail_drop (c k : Nat) (h : k < 4) : (crcTail c).drop (4 - (k + 1)) = UInt8.ofNat (c / 256 ^ k) :: (crcTail c).drop (4 - k) := by
  obtain h | h | h | h : k = 0 ∨ k = 1 ∨ k = 2 ∨ k = 3 := by omega
  all_goals subst h; simp [crcTail]
set_option maxHeartbeats 400000 in
theorem ref04_tail (c : Nat) (w : World) (hc : c < 4294967296) :
    Calls Try.prog 48 #[.int .u32 (c : Int)] w fun e w' => e = .returned (.string ⟨(crcTail c).toArray⟩) ∧ Below w.heap.size w w' := by
  have hcv := fun w a => conv_new1 (P := Try.prog) Try.underlying45 Try.underlying5 Try.underlying9 w a
  go_enter Try.func48, Try.ntmps48
  go_wp2
  go_loopw [0, 3, 4] (fun x s i wr => ∃ (k y : Nat) (t : ByteArray), k ≤ 4 ∧ y = c / 256 ^ k ∧ t = ⟨((crcTail c).drop (4 - k)).toArray⟩ ∧ i = .int .i64 k ∧ Below w.heap.size w wr ∧ x = .int .u32 (y : Int) ∧ s = .string t) (fun _ _ i _ => (4 - intOf i).toNat)
  case atStart => exact ⟨0, c, _, by omega, by simp, rfl, rfl, Below.refl _ _, rfl, rfl⟩
  case round =>
    obtain ⟨k, y, t, hk, hy, ht, rfl, hb, rfl, rfl⟩ := hrel
    have hts : t.size ≤ 4 := by rw [ht]; simp [ByteArray.size, crcTail]
    have HT := Lib.hid ht
    have HY := Lib.hid hy
    have hy2 : y ≤ c := by rw [hy]; exact Nat.div_le_self _ _
    clear hy ht
    by_cases hlt : k < 4
    · have HD := Lib.hid (crcTail_drop c k hlt)
      have hone : ∀ a, (strOfNums [a]).size = 1 := fun a => rfl
      go_wp2
      go_roundw
      case rel =>
        refine ⟨k + 1, y / 256, _, by omega, ?_, ?_, by go_num, (hb.alloc hb.size _), ?_, rfl⟩
        · rw [HY.out, Nat.div_div_eq_div_mul, Nat.pow_succ]
        · rw [HD.out, HT.out, HY.out]
          exact ba_cons (u8_cast _) _
        · rfl
      case measure => simp [intOf]; omega
    · obtain rfl : k = 4 := by omega
      have HT2 := Lib.hid (show t = ⟨(crcTail c).toArray⟩ from HT.out)
      go_wp2
      go_ret
      exact ⟨ret_str HT2.out, hb⟩

theorem crc_done {p c b : Nat} (h : p ^^^ 0 = crcBits 8 (c ^^^ b)) : p = crcStep c b := by
  rw [Nat.xor_zero] at h
  exact h
theorem mod2_cast {x : Nat} {b : Bool} (h : decide (x % 2 = 1) = b) : ((x : Int) % 2 == 1) = b := by
  rw [← h, Bool.eq_iff_iff]
  simp only [beq_iff_eq, decide_eq_true_eq]
  omega
set_option maxHeartbeats 400000 in
theorem ref04_of (s : ByteArray) (w : World) (hs : s.size ≤ maxLen) :
    Calls Try.prog 49 #[.string s] w fun e w' => e = .returned (.int .u32 (crcOf s.data.toList : Nat)) ∧ w = w' := by
  unfold maxLen at hs
  go_enter Try.func49, Try.ntmps49
  go_wp2
  go_loop [3, 4] (fun x i => ∃ k : Nat, k ≤ s.size ∧ i = .int .i64 k ∧ x = .int .u32 (crcRun 4294967295 (s.data.toList.take k) : Nat)) (fun _ i => (s.size - intOf i).toNat)
  case atStart => exact ⟨0, by omega, rfl, rfl⟩
  case round =>
    obtain ⟨k, hk, rfl, rfl⟩ := hrel
    by_cases hlt : k < s.size
    · have hl : crcRun 4294967295 (s.data.toList.take k) < 4294967296 := crcRun_lt _ (by omega)
      have HS := Lib.hid (crcRun_succ 4294967295 s k hlt)
      generalize crcRun 4294967295 (s.data.toList.take k) = x at *
      go_wp2
      go_loop [3, 5, 6] (fun y c j => ∃ m p q : Nat, m ≤ 8 ∧ j = .int .i64 m ∧ p < 4294967296 ∧ q < 256 ∧ q * 2 ^ m < 256 ∧ p ^^^ q = crcBits m (x ^^^ s[k].toNat) ∧ y = .int .u32 (p : Int) ∧ c = .int .u8 (q : Int)) (fun _ _ j => (8 - intOf j).toNat)
      case atStart => exact ⟨0, x, s[k].toNat, by omega, rfl, hl, s[k].toNat_lt, by have := s[k].toNat_lt; omega, rfl, rfl, rfl⟩
      case round =>
        obtain ⟨m, p, q, hm, rfl, hp, hq, hq2, hpq, rfl, rfl⟩ := hrel
        have HP := Lib.hid hpq
        clear hpq
        by_cases hlm : m < 8
        · have hp2 : crcBits (m + 1) (x ^^^ s[k].toNat) = (if ¬ (p % 2 = 1 ↔ q % 2 = 1) then p / 2 ^^^ 3988292384 else p / 2) ^^^ (q / 2) := by
            rw [crcBits_succ, ← HP.out, crcBit_xor]
          have HP2 := Lib.hid hp2
          clear hp2
          have hq3 : q / 2 * 2 ^ (m + 1) < 256 := by rw [Nat.pow_succ]; have := Nat.div_mul_le_self q 2; calc
              q / 2 * (2 ^ m * 2) = (q / 2 * 2) * 2 ^ m := by rw [Nat.mul_assoc, Nat.mul_comm (2 ^ m)]
              _ ≤ q * 2 ^ m := Nat.mul_le_mul_right _ this
              _ < 256 := hq2
          by_cases h1 : p % 2 = 1 <;> by_cases h2 : q % 2 = 1
          · have e1 : ((p : Int) % 2 == 1) = true := mod2_cast (by simp; omega)
            have e2 : ((q : Int) % 2 == 1) = true := mod2_cast (by simp; omega)
            have hodd : crcBits (m + 1) (x ^^^ s[k].toNat) = (p / 2) ^^^ (q / 2) := by rw [HP2.out, if_neg (by omega)]
            have HO := Lib.hid hodd
            clear h1 h2 hodd
            go_wp2
            go_round
            case rel => exact ⟨m + 1, p / 2, q / 2, by omega, by go_num, by omega, by omega, hq3, HO.out.symm, by go_num, by go_num⟩
            case measure => simp [intOf]; omega
          · have e1 : ((p : Int) % 2 == 1) = true := mod2_cast (by simp; omega)
            have e2 : ((q : Int) % 2 == 1) = false := mod2_cast (by simp; omega)
            have hx : bits .xor .u32 ((p : Int) / 2) 3988292384 = ((p / 2 ^^^ 3988292384 : Nat) : Int) := u32_xor_nat (p / 2) 3988292384 (by omega) (by omega)
            have hodd : crcBits (m + 1) (x ^^^ s[k].toNat) = (p / 2 ^^^ 3988292384) ^^^ (q / 2) := by rw [HP2.out, if_pos (by omega)]
            have HO := Lib.hid hodd
            clear h1 h2 hodd
            go_wp2
            go_round
            case rel => exact ⟨m + 1, p / 2 ^^^ 3988292384, q / 2, by omega, by go_num, xor_lt 32 (by omega) (by omega), by omega, hq3, HO.out.symm, by go_num, by go_num⟩
            case measure => simp [intOf]; omega
          · have e1 : ((p : Int) % 2 == 1) = false := mod2_cast (by simp; omega)
            have e2 : ((q : Int) % 2 == 1) = true := mod2_cast (by simp; omega)
            have hx : bits .xor .u32 ((p : Int) / 2) 3988292384 = ((p / 2 ^^^ 3988292384 : Nat) : Int) := u32_xor_nat (p / 2) 3988292384 (by omega) (by omega)
            have hodd : crcBits (m + 1) (x ^^^ s[k].toNat) = (p / 2 ^^^ 3988292384) ^^^ (q / 2) := by rw [HP2.out, if_pos (by omega)]
            have HO := Lib.hid hodd
            clear h1 h2 hodd
            go_wp2
            go_round
            case rel => exact ⟨m + 1, p / 2 ^^^ 3988292384, q / 2, by omega, by go_num, xor_lt 32 (by omega) (by omega), by omega, hq3, HO.out.symm, by go_num, by go_num⟩
            case measure => simp [intOf]; omega
          · have e1 : ((p : Int) % 2 == 1) = false := mod2_cast (by simp; omega)
            have e2 : ((q : Int) % 2 == 1) = false := mod2_cast (by simp; omega)
            have hodd : crcBits (m + 1) (x ^^^ s[k].toNat) = (p / 2) ^^^ (q / 2) := by rw [HP2.out, if_neg (by omega)]
            have HO := Lib.hid hodd
            clear h1 h2 hodd
            go_wp2
            go_round
            case rel => exact ⟨m + 1, p / 2, q / 2, by omega, by go_num, by omega, by omega, hq3, HO.out.symm, by go_num, by go_num⟩
            case measure => simp [intOf]; omega
        · obtain rfl : m = 8 := by omega
          obtain rfl : q = 0 := by omega
          have HQ := Lib.hid (crc_done HP.out)
          go_wp2
          go_round
          case rel => exact ⟨k + 1, by omega, by go_num, val_int (congrArg Nat.cast (HQ.out.trans HS.out.symm))⟩
          case measure => clear HP HQ HS hl hp hq2 hq; simp [intOf]; omega
    · obtain rfl : k = s.size := by omega
      have hl : crcRun 4294967295 (s.data.toList.take s.size) < 4294967296 := crcRun_lt _ (by omega)
      have hls : s.data.toList.take s.size = s.data.toList := List.take_of_length_le (by simp)
      rw [hls] at hl ⊢
      clear hls
      go_wp2
      go_ret
      refine ⟨ret_int ?_, rfl⟩
      show 4294967295 - _ = _
      unfold crcOf
      omega

end Go.Proofs.Ythdhcllljmkamaa
