/- The walks of the reference of layer 1: numbers and texts as bytes. -/
import Derived.Test.YtkifcmlehiidiaaProg
import Derived.Test.YtkifcmlehiidiaaPackPure
namespace Go.Proofs.Ytkifcmlehiidiaa
open Go.RowKit
set_option linter.unusedVariables false

set_option maxHeartbeats 400000 in
theorem ref_plain (n : Int) (w : World) (h1 : -9223372036854775808 ≤ n) (h2 : n ≤ 9223372036854775807) :
    Calls Try.prog 40 #[.int .i64 n] w fun e w' => e = .returned (.int .u64 (zig n : Nat)) ∧ w = w' := by
  by_cases h0 : 0 ≤ n
  · go_enter Try.func40, Try.ntmps40
    go_wp2
    go_ret
    refine ⟨ret_int ?_, rfl⟩
    show _ = _
    unfold zig
    rw [if_pos h0]
    omega
  · go_enter Try.func40, Try.ntmps40
    go_wp2
    go_ret
    refine ⟨ret_int ?_, rfl⟩
    show _ = _
    unfold zig
    rw [if_neg (by omega)]
    omega

set_option maxHeartbeats 400000 in
theorem ref_signed (u : Nat) (w : World) (h : u < 18446744073709551616) :
    Calls Try.prog 43 #[.int .u64 (u : Int)] w fun e w' => e = .returned (.int .i64 (zag u)) ∧ w = w' := by
  by_cases h0 : u % 2 = 0
  · have h3 : ((u : Int) % 2 == 0) = true := by rw [beq_iff_eq]; omega
    go_enter Try.func43, Try.ntmps43
    go_wp2
    go_ret
    refine ⟨ret_int ?_, rfl⟩
    show _ = _
    unfold zag
    rw [if_pos h0]
    omega
  · have h3 : ((u : Int) % 2 == 0) = false := by rw [beq_eq_false_iff_ne]; omega
    go_enter Try.func43, Try.ntmps43
    go_wp2
    go_ret
    refine ⟨ret_int ?_, rfl⟩
    show _ = _
    unfold zag
    rw [if_neg h0]
    omega

theorem ba_snoc (t : ByteArray) (a : Int) : (t ++ strOfNums [a]).data.toList = t.data.toList ++ [UInt8.ofNat a.toNat] := by
  rw [ba_append]; rfl

set_option maxHeartbeats 1000000 in
set_option maxRecDepth 100000 in
theorem ref_int (n : Int) (w : World) (h1 : -9223372036854775808 ≤ n) (h2 : n ≤ 9223372036854775807) :
    Calls Try.prog 22 #[.int .i64 n] w fun e w' => e = .returned (.string ⟨(encI n).toArray⟩) ∧ Fr w w' := by
  have hcv := fun w a => conv_new1 (P := Try.prog) Try.underlying31 Try.underlying5 Try.underlying9 w a
  have hone : ∀ a, (strOfNums [a]).size = 1 := fun a => rfl
  have HZ := Lib.hid (zig_lt h1 h2)
  have HL := Lib.hid (encI_len h1 h2)
  go_enter Try.func22, Try.ntmps22
  go_wp2_with fail
  refine (ref_plain n _ h1 h2).mono ?_
  rintro e w1 ⟨rfl, rfl⟩
  clear h1 h2
  go_wp2
  go_loopw [3, 4] (fun u s wr => ∃ (y : Nat) (t : ByteArray), Hid (y < 18446744073709551616) ∧ u = .int .u64 (y : Int) ∧ s = .string t ∧ Hid (t.data.toList ++ varint y = encI n) ∧ Fr w wr) (fun u _ _ => (intOf u).toNat)
  case atStart => exact ⟨zig n, ⟨#[]⟩, HZ, rfl, rfl, rfl, Fr.refl _⟩
  case round =>
    obtain ⟨y, t, hy, rfl, rfl, heq, hf⟩ := hrel
    have hts : t.size ≤ 10 := by
      have := congrArg List.length heq.out
      have h3 := HL.out
      rw [List.length_append, ba_len] at this
      omega
    have hy2 := hy.out
    by_cases hbig : 128 ≤ y
    · have HVB := Lib.hid (varint_big hbig)
      have hm : (128 + (y : Int) % 128) % 256 = 128 + (y : Int) % 128 := by omega
      go_wp2
      go_roundw
      case rel =>
        refine ⟨y / 128, _, Lib.hid (Nat.lt_of_le_of_lt (Nat.div_le_self _ _) hy.out), by go_num, rfl, ?_, hf.alloc _⟩
        show _ = _
        rw [← heq.out, HVB.out, ba_snoc, List.append_assoc]
        have e : (128 + (y : Int) % 128).toNat = y % 128 + 128 := by omega
        rw [e]
        rfl
      case measure => simp [intOf]; omega
    · have HVS := Lib.hid (varint_small (u := y) (by omega))
      have hm : (y : Int) % 256 = y := by omega
      go_wp2
      go_ret
      refine ⟨ret_str (ba_ext ?_), hf.alloc _⟩
      rw [ba_snoc, ← heq.out, HVS.out]
      simp

set_option maxHeartbeats 1000000 in
theorem ref_str (s : ByteArray) (w : World) (hs : s.size ≤ 9223372036854775000) :
    Calls Try.prog 23 #[.string s] w fun e w' => e = .returned (.string ⟨(encS s.data.toList).toArray⟩) ∧ Fr w w' := by
  have hl := encI_len (n := (s.size : Int)) (by omega) (by omega)
  go_enter Try.func23, Try.ntmps23
  go_wp2_with fail
  refine (ref_int s.size _ (by omega) (by omega)).mono ?_
  rintro e w1 ⟨rfl, hf⟩
  go_wp2
  go_ret
  refine ⟨ret_str (ba_ext ?_), hf⟩
  rw [ba_append, encS, ba_len]

set_option maxHeartbeats 1000000 in
theorem ref_bool (b : Bool) (w : World) :
    Calls Try.prog 24 #[.bool b] w fun e w' => e = .returned (.string ⟨(encB b).toArray⟩) ∧ Fr w w' := by
  cases b
  · go_enter Try.func24, Try.ntmps24
    go_wp2_with fail
    refine (ref_int 0 _ (by omega) (by omega)).mono ?_
    rintro e w1 ⟨rfl, hf⟩
    go_wp2
    go_ret
    exact ⟨rfl, hf⟩
  · go_enter Try.func24, Try.ntmps24
    go_wp2_with fail
    refine (ref_int 1 _ (by omega) (by omega)).mono ?_
    rintro e w1 ⟨rfl, hf⟩
    go_wp2
    go_ret
    exact ⟨rfl, hf⟩

end Go.Proofs.Ytkifcmlehiidiaa
