/- The laws of chapter 4 that need no algebra: the walks of alive, CrcIs and CrcChecks. -/
import Derived.Test.YtkifcmlehiidiaaCrc2
namespace Go.Proofs.Ytkifcmlehiidiaa
open Go.RowKit
set_option linter.unusedVariables false

theorem crc_of1 (s : ByteArray) (b : Nat) (w : World) (hs : s.size ≤ maxLen) (hc : w.cell? ⟨b, 0, none⟩ = some (.string s)) :
    Calls Try.prog 12 #[.slice (some ⟨b, 0, none⟩) 1 1] w fun e w' => e = .returned (.int .u32 (crcOf s.data.toList : Nat)) ∧ w = w' :=
  crc_of [s] b 1 w (by simp [maxLen]) (by simpa using hs) (fun i hi => by
    obtain rfl : i = 0 := by simpa using hi
    exact hc)
theorem crc_of2 (s t : ByteArray) (b : Nat) (w : World) (hs : s.size ≤ maxLen) (ht : t.size ≤ maxLen) (hc : w.cell? ⟨b, 0, none⟩ = some (.string s)) (hd : w.cell? ⟨b, 1, none⟩ = some (.string t)) :
    Calls Try.prog 12 #[.slice (some ⟨b, 0, none⟩) 2 2] w fun e w' => e = .returned (.int .u32 (crcOf (s.data.toList ++ t.data.toList) : Nat)) ∧ w = w' := by
  have h := crc_of [s, t] b 2 w (by simp [maxLen]) (by simpa using ⟨hs, ht⟩) (fun i hi => by
    simp only [List.length_cons, List.length_nil, Nat.zero_add, Nat.reduceAdd] at hi
    obtain rfl | rfl : i = 0 ∨ i = 1 := by omega
    · exact hc
    · exact hd)
  simp only [crcRuns, List.foldl_cons, List.foldl_nil, ← crcRun_append] at h
  exact h

theorem crc_alive_num : crcOf [49, 50, 51, 52, 53, 54, 55, 56, 57] = 3421780262 := by decide +kernel
set_option maxHeartbeats 400000 in
theorem crc_alive (w : World) : Calls Try.prog 11 #[] w fun e w' => e = .returned (.bool true) ∧ Below w.heap.size w w' := by
  have h1 := Lib.hid crc_alive_num
  go_enter Try.func11, Try.ntmps11
  go_wp2_with fail
  refine (crc_of1 ⟨#[49, 50, 51, 52, 53, 54, 55, 56, 57]⟩ _ _ (by simp [maxLen, ByteArray.size]) (by simp)).mono ?_
  rintro e w' ⟨rfl, rfl⟩
  have h2 : (((crcOf (ByteArray.mk #[49, 50, 51, 52, 53, 54, 55, 56, 57]).data.toList : Nat) : Int) == 3421780262) = true := by
    rw [show (ByteArray.mk #[49, 50, 51, 52, 53, 54, 55, 56, 57]).data.toList = [49, 50, 51, 52, 53, 54, 55, 56, 57] from rfl, h1.out]; rfl
  go_wp2_with fail
  refine (crc_tail 1 _ (by omega)).mono ?_
  rintro e w' ⟨rfl, hb⟩
  go_wp2
  go_ret
  refine ⟨ret_bool ?_, ((Below.refl _ _).alloc (Nat.le_refl _) _).trans (hb.mono (by simp))⟩
  decide +kernel

set_option maxHeartbeats 1000000 in
theorem crc_is (s : ByteArray) (cut : Int) (c : Nat) (w : World) (hc : c < 4294967296) (hs : s.size ≤ maxLen) :
    Calls Try.prog 3 #[.string s, .int .i64 cut, .int .u32 (c : Int)] w fun e w' => e = .returned (.bool true) ∧ Below w.heap.size w w' := by
  unfold maxLen at hs
  by_cases h1 : s.size ≤ 2048
  · by_cases h2 : 0 ≤ cut
    · by_cases h3 : cut ≤ s.size
      · obtain ⟨k, rfl⟩ := Int.eq_ofNat_of_zero_le h2
        go_enter Try.func3, Try.ntmps3
        go_wp2_with fail
        refine (crc_alive _).mono ?_
        rintro e w1 ⟨rfl, hb⟩
        have hsp : (s.extract 0 k).data.toList ++ (s.extract k s.size).data.toList = s.data.toList := by rw [ba_head, ba_tail, List.take_append_drop]
        have hz1 : (s.extract 0 k).size ≤ maxLen := by rw [ByteArray.size_extract]; unfold maxLen; omega
        have hz2 : (s.extract k s.size).size ≤ maxLen := by rw [ByteArray.size_extract]; unfold maxLen; omega
        have HSP := Lib.hid hsp
        clear hsp
        go_wp2
        refine wp_region_pf [([0, 3], 1), ([], 2), ([], 4), ([5, 6, 7, 8, 9, 10, 11, 12, 15], 13), ([], 14), ([], 16), ([17, 18, 19, 20, 22], 21), ([], 23)] [24, 25, 26] (fun _ => True) (by kernel_rfl) (by kernel_rfl) ?_ trivial ?_
        · intro c a d v w h
          cases d <;> exact h
        refine wpPF_cons ?_
        simp only [pickOps, lk]
        repeat (go_big_quiet_step (fail))
        refine wpQuiet_nil (npOp_want rfl (fun K hK => ?_))
        go_wp2
        refine ⟨trivial, wpPF_cons ?_⟩
        simp only [pickOps, lk]
        refine wpQuiet_nil (npOp_want rfl (fun K hK => ?_))
        go_wp2_with fail
        refine (crc_of1 s _ _ (by unfold maxLen; omega) (by simp)).mono ?_
        rintro e w2 ⟨rfl, rfl⟩
        go_wp2
        refine ⟨trivial, wpPF_cons ?_⟩
        simp only [pickOps, lk]
        refine wpQuiet_nil (npOp_want rfl (fun K hK => ?_))
        go_wp2_with fail
        refine (ref04_of s _ (by unfold maxLen; omega)).mono ?_
        rintro e w2 ⟨rfl, rfl⟩
        go_wp2
        refine ⟨trivial, wpPF_cons ?_⟩
        simp only [pickOps, lk]
        repeat (go_big_quiet_step (fail))
        refine wpQuiet_nil (npOp_want rfl (fun K hK => ?_))
        go_wp2
        refine ⟨trivial, wpPF_cons ?_⟩
        simp only [pickOps, lk]
        refine wpQuiet_nil (npOp_want rfl (fun K hK => ?_))
        go_wp2_with fail
        refine (crc_of2 (s.extract 0 k) (s.extract k s.size) _ _ hz1 hz2 (by simp) (by simp)).mono ?_
        rintro e w2 ⟨rfl, rfl⟩
        rw [HSP.out]
        go_wp2
        refine ⟨trivial, wpPF_cons ?_⟩
        simp only [pickOps, lk]
        refine wpQuiet_nil (npOp_want rfl (fun K hK => ?_))
        go_wp2_with fail
        refine (ref04_of s _ (by unfold maxLen; omega)).mono ?_
        rintro e w2 ⟨rfl, rfl⟩
        go_wp2
        refine ⟨trivial, wpPF_cons ?_⟩
        simp only [pickOps, lk]
        repeat (go_big_quiet_step (fail))
        refine wpQuiet_nil (npOp_want rfl (fun K hK => ?_))
        go_wp2_with fail
        refine (crc_tail c _ hc).mono ?_
        rintro e w2 ⟨rfl, hb2⟩
        go_wp2
        refine ⟨trivial, wpPF_cons ?_⟩
        simp only [pickOps, lk]
        refine wpQuiet_nil (npOp_want rfl (fun K hK => ?_))
        go_wp2_with fail
        refine (ref04_tail c _ hc).mono ?_
        rintro e w3 ⟨rfl, hb3⟩
        go_wp2
        refine ⟨trivial, wpPF_nil ?_⟩
        simp only [pickOps, lk]
        repeat (go_big_quiet_step (fail))
        refine wpQuiet_nil ?_
        go_wp2
        go_ret
        exact ⟨rfl, by repeat (first | exact hb | apply Fr.drew | apply Fr.alloc | refine Fr.trans ?_ (by assumption))⟩
      · have h4 : (s.size : Int) < cut := by omega
        go_enter Try.func3, Try.ntmps3
        go_wp2_with fail
        refine (crc_alive _).mono ?_
        rintro e w1 ⟨rfl, hb⟩
        go_wp2
        go_ret
        exact ⟨rfl, hb⟩
    · go_enter Try.func3, Try.ntmps3
      go_wp2_with fail
      refine (crc_alive _).mono ?_
      rintro e w1 ⟨rfl, hb⟩
      go_wp2
      go_ret
      exact ⟨rfl, hb⟩
  · go_enter Try.func3, Try.ntmps3
    go_wp2_with fail
    refine (crc_alive _).mono ?_
    rintro e w1 ⟨rfl, hb⟩
    go_wp2
    go_ret
    exact ⟨rfl, hb⟩

theorem crc_is_row (s : ByteArray) (hs : s.size ≤ 140737488351232) (cut : Int) (hcut : (Lit.int .i64 cut).wf = true) (c : Int) (hc : (Lit.int .u32 c).wf = true) (w : World) :
    Calls Try.prog 3 #[.string s, .int .i64 cut, .int .u32 c] w fun e w' => e = .returned (.bool true) ∧ Below w.heap.size w w' := by
  have h : 0 ≤ c ∧ c < 4294967296 := wf_u32 hc
  obtain ⟨n, rfl⟩ := Int.eq_ofNat_of_zero_le h.1
  exact crc_is s cut n w (by omega) (by unfold maxLen; omega)

end Go.Proofs.Ytkifcmlehiidiaa
