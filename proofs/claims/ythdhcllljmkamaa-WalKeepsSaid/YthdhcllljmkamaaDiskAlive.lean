/- The walk of alive of chapter 5. -/
import Derived.Test.YthdhcllljmkamaaDiskDoes
namespace Go.Proofs.Ythdhcllljmkamaa
open Go.RowKit
set_option linter.unusedVariables false

/-- One call on the only disk. -/
theorem one_call {g : Nat} {st : DSt} {w wc : World} (hU : Upd (fun _ => False) (Sep [IsD g st]) w wc) :
    ∃ S1, IsD g st S1 wc ∧ ∀ st' w', Upd S1 (IsD g st') wc w' → Upd (fun _ => False) (Sep [IsD g st']) w w' := by
  obtain ⟨S1, h1, k1⟩ := Upd.call (L := []) (by simp) hU
  exact ⟨S1, h1, fun st' w' h => k1 _ _ h⟩
set_option maxHeartbeats 1000000 in
theorem disk_alive (w : World) : Calls Try.prog 12 #[] w fun e w' => e = .returned (.bool true) ∧ Fr w w' := by
  go_enter Try.func12, Try.ntmps12
  go_wp2_with fail
  refine (d_new 10 w).mono ?_
  rintro e w1 ⟨rfl, hf, hd⟩
  have hU := Upd.new (L := []) (by simp) (Upd.start w) hf _ hd (fun k hk => Nat.le_of_eq hk.symm)
  obtain ⟨S1, h1, k1⟩ := one_call hU
  have K1 := Lib.hid k1
  clear hf hd hU k1
  go_wp2_with fail
  refine (d_append _ _ ⟨#[97, 98, 99]⟩ S1 _ (dNew_wf 10) (by decide) h1).mono ?_
  rintro e w2 ⟨rfl, hu⟩
  obtain ⟨S2, h2, k2⟩ := one_call (K1.out _ _ hu)
  have K2 := Lib.hid k2
  clear K1 h1 hu k2
  go_wp2_with fail
  refine (d_sync _ _ S2 _ h2).mono ?_
  rintro e w3 ⟨rfl, hu⟩
  obtain ⟨S3, h3, k3⟩ := one_call (K2.out _ _ hu)
  have K3 := Lib.hid k3
  clear K2 h2 hu k3
  go_wp2_with fail
  refine (d_append _ _ ⟨#[100, 101]⟩ S3 _ (dSync_wf (dAppend_wf (dNew_wf 10) _)) (by decide) h3).mono ?_
  rintro e w4 ⟨rfl, hu⟩
  obtain ⟨S4, h4, k4⟩ := one_call (K3.out _ _ hu)
  have K4 := Lib.hid k4
  clear K3 h3 hu k4
  go_wp2_with fail
  refine (d_off _ _ 1 0 S4 _ (dAppend_wf (dSync_wf (dAppend_wf (dNew_wf 10) _)) _) h4).mono ?_
  rintro e w5 ⟨rfl, hu⟩
  obtain ⟨S5, h5, k5⟩ := one_call (K4.out _ _ hu)
  have K5 := Lib.hid k5
  clear K4 h4 hu k5
  go_wp2_with fail
  refine (d_on _ _ S5 _ (dOff_wf (dAppend_wf (dSync_wf (dAppend_wf (dNew_wf 10) _)) _) _ _) (by decide) h5).mono ?_
  rintro e w6 ⟨rfl, hu⟩
  obtain ⟨S6, h6, k6⟩ := one_call (K5.out _ _ hu)
  have HF := Lib.hid (K5.out _ _ hu).fr
  obtain ⟨st, hst⟩ : ∃ st, dOn (dOff (dAppend (dSync (dAppend (dNew 10) (⟨#[97, 98, 99]⟩ : ByteArray).data.toList).2).2 (⟨#[100, 101]⟩ : ByteArray).data.toList).2 1 0) = st := ⟨_, rfl⟩
  have hs1 : (⟨(if st.down = true then [] else st.all).toArray⟩ : ByteArray) = ⟨#[97, 98, 99, 100]⟩ := by rw [← hst]; decide +kernel
  have hs2 : (st.boots : Int) = 2 := by rw [← hst]; decide +kernel
  rw [hst] at h6
  have H6 := Lib.hid h6
  have h61 := d_read _ _ S6 _ h6
  have h62 := d_boots _ _ S6 _ h6
  rw [hs1] at h61
  rw [hs2] at h62
  have H61 := Lib.hid h61
  have H62 := Lib.hid h62
  clear K5 h5 hu k6 h6 hst hs1 hs2 h61 h62
  go_wp2_with fail
  refine H61.out.mono ?_
  rintro e w7 ⟨rfl, rfl⟩
  go_wp2_with fail
  refine H62.out.mono ?_
  rintro e w7 ⟨rfl, rfl⟩
  go_wp2
  go_ret
  exact ⟨rfl, HF.out⟩

end Go.Proofs.Ythdhcllljmkamaa
