/- The walk of crc.Check. -/
import Derived.Test.YthdhcllljmkamaaCrc
import Derived.Test.YthdhcllljmkamaaReg
namespace Go.Proofs.Ythdhcllljmkamaa
open Go.RowKit
set_option linter.unusedVariables false

set_option maxHeartbeats 400000 in
theorem crc_check_short (s : ByteArray) (w : World) (hs : s.size < 4) :
    Calls Try.prog 47 #[.string s] w fun e w' => e = .returned (.tuple #[.string ⟨#[]⟩, .bool false]) ∧ Below w.heap.size w w' := by
  have hm : s.size ≤ 9223372036854775807 := by omega
  have hd : decide ((s.size : Int) - 4 < 0) = true := by simp; omega
  go_enter Try.func47, Try.ntmps47
  go_wp2
  go_quiet (fail)
  go_wp2
  go_ret2
  exact ⟨rfl, ⟨rfl, rfl, rfl, Nat.le_refl _, fun _ _ => rfl⟩⟩

theorem crcGood_ba (s : ByteArray) (h : 4 ≤ s.size) : crcGood s.data.toList = (crcTail (4294967295 - crcRuns 4294967295 [s.extract 0 (s.size - 4)]) == (s.extract (s.size - 4) s.size).toList) := by
  have hl : s.data.toList.length = s.size := by simp
  have ht : (s.extract (s.size - 4) s.size).toList = s.data.toList.drop (s.size - 4) := by rw [ByteArray.toList_eq, ba_tail]
  rw [ht, crcGood, hl, decide_eq_true h, Bool.true_and]
  simp only [crcRuns, List.foldl_cons, List.foldl_nil, ba_head]
  rfl
set_option maxHeartbeats 400000 in
theorem crc_check (s : ByteArray) (w : World) (hs : 4 ≤ s.size) (hm : s.size ≤ maxLen) :
    Calls Try.prog 47 #[.string s] w fun e w' => e = .returned (.tuple #[.string ⟨(crcRest s.data.toList).toArray⟩, .bool (crcGood s.data.toList)]) ∧ Below w.heap.size w w' := by
  have hd : decide ((s.size : Int) - 4 < 0) = false := by simp; omega
  have h0 : 0 ≤ (s.size : Int) - 4 := by omega
  unfold maxLen at hm
  go_enter Try.func47, Try.ntmps47
  go_wp2
  refine wp_region_pf [([0, 1, 2, 3, 4, 5, 9, 10, 11], 6), ([], 7), ([], 8)] [12, 13] (fun _ => True) (by kernel_rfl) (by kernel_rfl) ?_ trivial ?_
  · intro c a d v w h
    cases d <;> exact h
  refine wpPF_cons ?_
  simp only [pickOps, lk]
  repeat (go_big_quiet_step (fail))
  refine wpQuiet_nil ?_
  refine npOp_want rfl (fun K hK => ?_)
  go_wp2
  refine ⟨trivial, wpPF_cons ?_⟩
  simp only [pickOps, lk]
  refine wpQuiet_nil ?_
  refine npOp_want rfl (fun K hK => ?_)
  go_wp2_with fail
  have HC := crc_of [s.extract 0 (s.size - 4)] w.heap.size 1 (w.alloc (Obj.cells #[Value.string (s.extract 0 (s.size - 4))] 9)).drew (by simp [maxLen]) (by simp [maxLen]; omega)
    (by intro i hi; obtain rfl : i = 0 := by simpa using hi
        simp)
  refine HC.mono ?_
  rintro e w' ⟨rfl, rfl⟩
  go_wp2
  refine ⟨trivial, wpPF_cons ?_⟩
  simp only [pickOps, lk]
  refine wpQuiet_nil ?_
  refine npOp_want rfl (fun K hK => ?_)
  go_wp2_with fail
  refine (crc_tail _ _ (by omega)).mono ?_
  rintro e w' ⟨rfl, hb⟩
  go_wp2
  refine ⟨trivial, wpPF_nil ?_⟩
  simp only [pickOps, lk]
  repeat (go_big_quiet_step (fail))
  refine wpQuiet_nil ?_
  go_wp2
  · have hg : crcGood s.data.toList = false := by
      rw [crcGood_ba s hs]
      rename_i ht
      simpa using ht
    go_ret2
    refine ⟨?_, (((Below.refl _ _).alloc (Nat.le_refl _) _).drew.trans (hb.mono (by simp)))⟩
    rw [hg, crcRest, if_neg (by rw [hg]; exact Bool.false_ne_true)]
    rfl
  · have hg : crcGood s.data.toList = true := by
      rw [crcGood_ba s hs]
      rename_i ht
      simpa using ht
    go_ret2
    refine ⟨?_, (((Below.refl _ _).alloc (Nat.le_refl _) _).drew.trans (hb.mono (by simp)))⟩
    rw [hg, crcRest, if_pos hg, ← ba_head s, ba_len]
    rfl

theorem crcGood_short (s : ByteArray) (h : s.size < 4) : crcGood s.data.toList = false := by
  rw [crcGood, ba_len, decide_eq_false (by omega), Bool.false_and]
theorem crc_check_any (s : ByteArray) (w : World) (hm : s.size ≤ maxLen) :
    Calls Try.prog 47 #[.string s] w fun e w' => e = .returned (.tuple #[.string ⟨(crcRest s.data.toList).toArray⟩, .bool (crcGood s.data.toList)]) ∧ Below w.heap.size w w' := by
  by_cases h : 4 ≤ s.size
  · exact crc_check s w h hm
  · have h2 := crcGood_short s (by omega)
    have h3 : crcRest s.data.toList = [] := by rw [crcRest, if_neg (by rw [h2]; exact Bool.false_ne_true)]
    rw [h2, h3]
    exact crc_check_short s w (by omega)

end Go.Proofs.Ythdhcllljmkamaa
