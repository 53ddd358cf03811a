/- The walk of CrcChecks. -/
import Derived.Test.YtkifcmlehiidiaaCrcLaws
namespace Go.Proofs.Ytkifcmlehiidiaa
open Go.RowKit
set_option linter.unusedVariables false

theorem crcRuns_one (s : ByteArray) : 4294967295 - crcRuns 4294967295 [s] = crcOf s.data.toList := rfl
theorem crcSum_ba (s : ByteArray) : (s ++ ⟨(crcTail (crcOf s.data.toList)).toArray⟩ : ByteArray).data.toList = s.data.toList ++ crcTail (crcOf s.data.toList) := by rw [ba_append]
theorem crcSum_size (s : ByteArray) (h : s.size ≤ 2048) : (s ++ ⟨(crcTail (crcOf s.data.toList)).toArray⟩).size ≤ maxLen := by
  rw [ByteArray.size_append]
  have : (⟨(crcTail (crcOf s.data.toList)).toArray⟩ : ByteArray).size = 4 := rfl
  unfold maxLen
  omega
theorem crcSum_rest (s : ByteArray) : (⟨(crcRest (s ++ ⟨(crcTail (crcOf s.data.toList)).toArray⟩ : ByteArray).data.toList).toArray⟩ : ByteArray) = s := by rw [crcSum_ba, crcRest_append]
theorem crcSum_good (s : ByteArray) : crcGood (s ++ ⟨(crcTail (crcOf s.data.toList)).toArray⟩ : ByteArray).data.toList = true := by rw [crcSum_ba, crcGood_append]

set_option maxHeartbeats 1000000 in
set_option maxRecDepth 100000 in
theorem crc_checks_short (s : ByteArray) (w : World) (h4 : s.size < 4) :
    Calls Try.prog 4 #[.string s] w fun e w' => e = .returned (.bool true) ∧ Below w.heap.size w w' := by
  have hT : ∀ c, (crcTail c).length = 4 := fun _ => rfl
  have hz := crcSum_size s (by omega)
  have HR := Lib.hid (crcSum_rest s)
  have HG := Lib.hid (crcSum_good s)
  have hs : s.size ≤ 9223372036854775807 := by omega
  have hd : decide (0 ≤ (s.size : Int) - 4) = false := by simp; omega
  have hd2 : decide (4 ≤ s.size) = false := by simp; omega
  have hd3 : decide ((4 : Int) ≤ s.size) = false := by simp; omega
  have HG2 := Lib.hid (crcGood_short s h4)
  have HR2 := Lib.hid (show crcRest s.data.toList = [] by rw [crcRest, if_neg (by rw [HG2.out]; exact Bool.false_ne_true)])
  go_enter Try.func4, Try.ntmps4
  go_wp2_with fail
  refine (crc_alive _).mono ?_
  rintro e w1 ⟨rfl, hb⟩
  go_wp2_with fail
  refine (crc_of1 s _ _ (by unfold maxLen; omega) (by simp)).mono ?_
  rintro e w2 ⟨rfl, rfl⟩
  go_wp2_with fail
  refine (crc_tail _ _ (crcOf_lt _)).mono ?_
  rintro e w2 ⟨rfl, hb2⟩
  go_wp2_with fail
  refine (crc_check_any _ _ hz).mono ?_
  rintro e w3 ⟨rfl, hb3⟩
  rw [HR.out, HG.out]
  go_wp2
  go_quiet (fail)
  go_wp2_with fail
  refine (crc_check_any s _ (by unfold maxLen; omega)).mono ?_
  rintro e w4 ⟨rfl, hb4⟩
  rw [HR2.out, HG2.out]
  go_wp2
  go_ret
  exact ⟨rfl, by repeat (first | exact hb | apply Fr.drew | apply Fr.drewN | apply Fr.alloc | refine Fr.trans ?_ (by assumption))⟩

set_option maxHeartbeats 1000000 in
set_option maxRecDepth 100000 in
theorem crc_checks_long (s : ByteArray) (b : Bool) (w : World) (hs : s.size ≤ 2048) (h4 : 4 ≤ s.size) (hb : crcGood s.data.toList = b) :
    Calls Try.prog 4 #[.string s] w fun e w' => e = .returned (.bool true) ∧ Below w.heap.size w w' := by
  have hT : ∀ c, (crcTail c).length = 4 := fun _ => rfl
  have hz := crcSum_size s hs
  have HR := Lib.hid (crcSum_rest s)
  have HG := Lib.hid (crcSum_good s)
  have hs2 : s.size ≤ 9223372036854775807 := by omega
  have hd : decide (0 ≤ (s.size : Int) - 4) = true := by simp; omega
  have hd2 : decide (4 ≤ s.size) = true := by simp; omega
  have hd3 : decide ((4 : Int) ≤ s.size) = true := by simp; omega
  have h0 : 0 ≤ (s.size : Int) - 4 := by omega
  have hmax : max ((s.size : Int) - 4) 0 = (s.size : Int) - 4 := by omega
  have HG2 := Lib.hid hb
  have hgd := (crcGood_ba s h4).symm.trans hb
  have hx1 : (s.extract (s.size - 4) s.size).toList = s.data.toList.drop (s.size - 4) := by rw [ByteArray.toList_eq, ba_tail]
  have hx2 : (s.extract 0 (s.size - 4)).toList = s.data.toList.take (s.size - 4) := by rw [ByteArray.toList_eq, ba_head]
  rw [crcRuns_one, ba_head, hx1] at hgd
  have HR2 := Lib.hid (show crcRest s.data.toList = if b = true then s.data.toList.take (s.size - 4) else [] by rw [crcRest, hb, ba_len])
  clear hb
  cases b
  · have HR3 := Lib.hid (show crcRest s.data.toList = [] from HR2.out)
    clear HR2
    have HR2 := HR3
    clear HR3
    go_enter Try.func4, Try.ntmps4
    go_wp2_with fail
    refine (crc_alive _).mono ?_
    rintro e w1 ⟨rfl, hb⟩
    go_wp2_with fail
    refine (crc_of1 s _ _ (by unfold maxLen; omega) (by simp)).mono ?_
    rintro e w2 ⟨rfl, rfl⟩
    go_wp2_with fail
    refine (crc_tail _ _ (crcOf_lt _)).mono ?_
    rintro e w2 ⟨rfl, hb2⟩
    go_wp2_with fail
    refine (crc_check_any _ _ hz).mono ?_
    rintro e w3 ⟨rfl, hb3⟩
    rw [HR.out, HG.out]
    go_wp2
    refine wp_region_pf [([0, 1, 2, 3, 4, 5, 6, 9, 10, 11, 12], 7), ([], 8)] [13, 14, 15] (fun _ => True) (by kernel_rfl) (by kernel_rfl) ?_ trivial ?_
    · intro c a d v w h
      cases d <;> exact h
    refine wpPF_cons ?_
    simp only [pickOps, lk]
    repeat (go_big_quiet_step (fail))
    refine wpQuiet_nil (npOp_want rfl (fun K hK => ?_))
    go_wp2_with fail
    refine (ref04_of _ _ (by rw [ByteArray.size_extract]; unfold maxLen; omega)).mono ?_
    rintro e w4 ⟨rfl, rfl⟩
    go_wp2
    refine ⟨trivial, wpPF_cons ?_⟩
    simp only [pickOps, lk]
    refine wpQuiet_nil (npOp_want rfl (fun K hK => ?_))
    go_wp2_with fail
    refine (ref04_tail _ _ (crcOf_lt _)).mono ?_
    rintro e w5 ⟨rfl, hb5⟩
    go_wp2
    refine ⟨trivial, wpPF_nil ?_⟩
    simp only [pickOps, lk]
    repeat (go_big_quiet_step (fail))
    refine wpQuiet_nil ?_
    go_wp2_with fail
    refine (crc_check_any s _ (by unfold maxLen; omega)).mono ?_
    rintro e w4 ⟨rfl, hb4⟩
    rw [HR2.out, HG2.out]
    go_wp2
    go_ret
    exact ⟨rfl, by repeat (first | exact hb | apply Fr.drew | apply Fr.drewN | apply Fr.alloc | refine Fr.trans ?_ (by assumption))⟩
  · have HR3 := Lib.hid (show crcRest s.data.toList = s.data.toList.take (s.size - 4) from HR2.out)
    clear HR2
    have HR2 := HR3
    clear HR3
    go_enter Try.func4, Try.ntmps4
    go_wp2_with fail
    refine (crc_alive _).mono ?_
    rintro e w1 ⟨rfl, hb⟩
    go_wp2_with fail
    refine (crc_of1 s _ _ (by unfold maxLen; omega) (by simp)).mono ?_
    rintro e w2 ⟨rfl, rfl⟩
    go_wp2_with fail
    refine (crc_tail _ _ (crcOf_lt _)).mono ?_
    rintro e w2 ⟨rfl, hb2⟩
    go_wp2_with fail
    refine (crc_check_any _ _ hz).mono ?_
    rintro e w3 ⟨rfl, hb3⟩
    rw [HR.out, HG.out]
    go_wp2
    refine wp_region_pf [([0, 1, 2, 3, 4, 5, 6, 9, 10, 11, 12], 7), ([], 8)] [13, 14, 15] (fun _ => True) (by kernel_rfl) (by kernel_rfl) ?_ trivial ?_
    · intro c a d v w h
      cases d <;> exact h
    refine wpPF_cons ?_
    simp only [pickOps, lk]
    repeat (go_big_quiet_step (fail))
    refine wpQuiet_nil (npOp_want rfl (fun K hK => ?_))
    go_wp2_with fail
    refine (ref04_of _ _ (by rw [ByteArray.size_extract]; unfold maxLen; omega)).mono ?_
    rintro e w4 ⟨rfl, rfl⟩
    go_wp2
    refine ⟨trivial, wpPF_cons ?_⟩
    simp only [pickOps, lk]
    refine wpQuiet_nil (npOp_want rfl (fun K hK => ?_))
    go_wp2_with fail
    refine (ref04_tail _ _ (crcOf_lt _)).mono ?_
    rintro e w5 ⟨rfl, hb5⟩
    go_wp2
    refine ⟨trivial, wpPF_nil ?_⟩
    simp only [pickOps, lk]
    repeat (go_big_quiet_step (fail))
    refine wpQuiet_nil ?_
    go_wp2_with fail
    refine (crc_check_any s _ (by unfold maxLen; omega)).mono ?_
    rintro e w4 ⟨rfl, hb4⟩
    rw [HR2.out, HG2.out]
    go_wp2
    go_ret
    exact ⟨rfl, by repeat (first | exact hb | apply Fr.drew | apply Fr.drewN | apply Fr.alloc | refine Fr.trans ?_ (by assumption))⟩

set_option maxHeartbeats 1000000 in
set_option maxRecDepth 100000 in
theorem crc_checks_row (s : ByteArray) (hs : s.size ≤ 140737488351232) (w : World) :
    Calls Try.prog 4 #[.string s] w fun e w' => e = .returned (.bool true) ∧ Below w.heap.size w w' := by
  by_cases h1 : s.size ≤ 2048
  · by_cases h4 : s.size < 4
    · exact crc_checks_short s w h4
    · exact crc_checks_long s _ w h1 (by omega) rfl
  · go_enter Try.func4, Try.ntmps4
    go_wp2_with fail
    refine (crc_alive _).mono ?_
    rintro e w1 ⟨rfl, hb⟩
    go_wp2
    go_ret
    exact ⟨rfl, hb⟩

end Go.Proofs.Ytkifcmlehiidiaa
