/- The walks of alive and WalScans of chapter 6. -/
import Derived.Test.YthdhcllljmkamaaWalOpen
import Derived.Test.YthdhcllljmkamaaDiskAlive
namespace Go.Proofs.Ythdhcllljmkamaa
open Go.RowKit
set_option linter.unusedVariables false

theorem wScan_nil : wScan [] = ([], 0) := wScan_none wNext_nil
theorem wNext_short {l : List UInt8} (h : l.length < 6) : wNext l = none := by unfold wNext; rw [if_pos (.inl h)]
/-- The only member opened: its log, its records, it. -/
theorem only_open {gd gl n : Nat} {v : Value} {l : List (List UInt8)} {st st' : DSt} {w wc w' : World} {S : Nat → Prop} (hU : Upd (fun _ => False) (Sep [IsD gd st]) w wc)
    (k1 : ∀ A' w', Upd S A' wc w' → Upd (fun _ => False) (Sep [A']) w w') (h : Upd S (Sep [IsL gl gd n, IsRows v l, IsD gd st']) wc w') : Upd (fun _ => False) (Sep [IsL gl gd n, IsRows v l, IsD gd st']) w w' :=
  Upd.flat [IsL gl gd n, IsRows v l, IsD gd st'] (L := []) (k1 _ _ h)
theorem drop_rows {gd gl n : Nat} {v : Value} {l : List (List UInt8)} {st : DSt} {w wc : World} (hU : Upd (fun _ => False) (Sep [IsL gl gd n, IsRows v l, IsD gd st]) w wc) : Upd (fun _ => False) (Sep [IsL gl gd n, IsD gd st]) w wc := hU.swap.drop
theorem drop_log {gd gl n : Nat} {st : DSt} {w wc : World} (hU : Upd (fun _ => False) (Sep [IsL gl gd n, IsD gd st]) w wc) : Upd (fun _ => False) (Sep [IsD gd st]) w wc := hU.drop
/-- What alive comes to. -/
theorem alive_st (st : DSt) (h : st = lOpen (dNew 100)) :
    lAdd st [97] = (0, { st with loose := wFrame [97] }) := by
  subst h
  have e : (lOpen (dNew 100)) = ⟨[], [], 100, false, 1⟩ := by
    unfold lOpen
    show (⟨List.take _ [], [], 100, false, 1⟩ : DSt) = _
    rw [List.take_nil]
  rw [e]
  unfold lAdd dAppend
  rw [if_neg (by simp), if_neg (by simp), if_neg (by simp), if_neg (by rw [wFrame_len]; simp [DSt.all])]
  rfl
theorem open_new (n : Int) : lOpen (dNew n) = dNew n := by
  unfold lOpen dNew
  simp [DSt.all]
theorem alive_end (st : DSt) (h : st = dOn (dOff (lAdd (dSync (lAdd (dNew 100) [97]).2).2 [98]).2 1 0)) :
    (lAdd (dNew 100) [97]).1 = 0 ∧ (lAdd (dSync (lAdd (dNew 100) [97]).2).2 [98]).1 = 0 ∧ (lAdd (dNew 100) [97]).2.down = false ∧ wScan st.all = ([[97]], 7) := by
  have e1 : lAdd (dNew 100) [97] = (0, ⟨[], wFrame [97], 100, false, 1⟩) := by
    have := alive_st (lOpen (dNew 100)) rfl
    rw [open_new] at this
    rw [this]
    rfl
  have e2 : dSync (lAdd (dNew 100) [97]).2 = (0, ⟨wFrame [97], [], 100, false, 1⟩) := by rw [e1]; rfl
  have e3 : lAdd (dSync (lAdd (dNew 100) [97]).2).2 [98] = (0, ⟨wFrame [97], wFrame [98], 100, false, 1⟩) := by
    rw [e2]
    unfold lAdd dAppend
    rw [if_neg (by simp), if_neg (by simp), if_neg (by simp), if_neg (by simp only [DSt.all, List.append_nil]; rw [wFrame_len, wFrame_len]; simp)]
    rfl
  refine ⟨by rw [e1], by rw [e3], by rw [e1], ?_⟩
  rw [h, e3]
  have e4 : (dOn (dOff ⟨wFrame [97], wFrame [98], 100, false, 1⟩ 1 0)).all = wFrame [97] ++ turnLast ((wFrame [98]).take 1) 0 := by
    unfold dOff
    rw [if_neg (by simp)]
    unfold dOn
    rw [if_pos rfl]
    have hm : (max (1 : Int) 0).toNat = 1 := rfl
    simp [DSt.all, hm]
  show wScan (dOn (dOff ⟨wFrame [97], wFrame [98], 100, false, 1⟩ 1 0)).all = _
  rw [e4]
  have h1 := wScan_frames [[97]] (turnLast ((wFrame [98]).take 1) 0) (by simp)
  have h2 : wScan (turnLast ((wFrame [98]).take 1) 0) = ([], 0) := wScan_none (wNext_short (by rw [turnLast_len, List.length_take]; omega))
  rw [h2] at h1
  have h3 : wFrames [[97]] = wFrame [97] := by simp [wFrames]
  rw [h3] at h1
  rw [h1, wFrame_len]
  simp

set_option maxHeartbeats 4000000 in
set_option maxRecDepth 100000 in
theorem wal_alive (w : World) : Calls Try.prog 29 #[] w fun e w' => e = .returned (.bool true) ∧ Fr w w' := by
  obtain ⟨st5, hst5⟩ : ∃ st, dOn (dOff (lAdd (dSync (lAdd (dNew 100) [97]).2).2 [98]).2 1 0) = st := ⟨_, rfl⟩
  obtain ⟨q1, q2, q3, q4⟩ := alive_end st5 hst5.symm
  obtain ⟨r1, hr1⟩ : ∃ r, lAdd (dNew 100) [97] = r := ⟨_, rfl⟩
  rw [hr1] at hst5 q1 q2 q3
  have hw1 : r1.2.wf := by rw [← hr1]; exact lAdd_wf (dNew_wf 100) _
  have hs1 : dSync r1.2 = (0, (dSync r1.2).2) := by unfold dSync; rw [if_neg (by rw [q3]; exact Bool.false_ne_true)]
  obtain ⟨s2, hs2⟩ : ∃ s, (dSync r1.2).2 = s := ⟨_, rfl⟩
  rw [hs2] at hs1 hst5 q2
  have hw2 : s2.wf := by rw [← hs2]; exact dSync_wf hw1
  obtain ⟨r3, hr3⟩ : ∃ r, lAdd s2 [98] = r := ⟨_, rfl⟩
  rw [hr3] at hst5 q2
  have hw3 : r3.2.wf := by rw [← hr3]; exact lAdd_wf hw2 _
  have hw4 := dOff_wf hw3 1 0
  have hw5 := dOn_wf hw4
  have hdn5 := dOn_down (dOff r3.2 1 0)
  have hbo : (dOff r3.2 1 0).boots ≤ 1000000 := by
    have hb1 : ∀ (st : DSt) s, (lAdd st s).2.boots = st.boots := fun st s => by unfold lAdd dAppend; (repeat' split) <;> rfl
    have hb2 : ∀ st : DSt, (dSync st).2.boots = st.boots := fun st => by unfold dSync; split <;> rfl
    have hb3 : ∀ (st : DSt), (dOff st 1 0).boots = st.boots := fun st => by unfold dOff; split <;> rfl
    have hb4 : (dNew 100).boots = 1 := rfl
    rw [hb3, ← hr3, hb1, ← hs2, hb2, ← hr1, hb1, hb4]
    omega
  rw [hst5] at hw5 hdn5
  obtain ⟨a1, a2⟩ := r1
  obtain ⟨a3, a4⟩ := r3
  dsimp only at q1 q2 q3 hw1 hs1 hs2 hw3 hw4 hbo hst5
  subst q1
  subst q2
  have HR1 := Lib.hid hr1
  have HS1 := Lib.hid hs1
  have HR3 := Lib.hid hr3
  have HST := Lib.hid hst5
  have HQ := Lib.hid q4
  have HDN := Lib.hid hdn5
  clear hr1 hs1 hs2 hr3 hst5 q4 q3 hdn5
  go_enter Try.func29, Try.ntmps29
  go_wp2_with fail
  refine (d_new 100 w).mono ?_
  rintro e w1 ⟨rfl, hf, hd⟩
  have hU := Upd.new (L := []) (by simp) (Upd.start w) hf _ hd (fun k hk => Nat.le_of_eq hk.symm)
  generalize w.heap.size = gd at hU ⊢
  clear hf hd
  have HU0 := Lib.hid hU
  obtain ⟨S1, h1, k1⟩ := Upd.call (L := []) (by simp) hU
  have K1 := Lib.hid k1
  clear hU k1
  go_wp2_with fail
  refine (wal_open gd _ S1 _ (dNew_wf 100) rfl h1).mono ?_
  rintro e w2 ⟨gl, v, rfl, hu⟩
  have hsc : wScan (dNew 100).all = ([], 0) := wScan_nil
  rw [hsc, open_new] at hu
  have HU := Lib.hid (only_open HU0.out K1.out hu)
  clear hu h1 K1 HU0 hsc
  obtain ⟨S2, hrows⟩ := (HU.out.swap).head
  obtain ⟨ao, c, rfl, _⟩ := hrows.read
  have HU1 := Lib.hid (drop_rows HU.out)
  clear HU hrows
  obtain ⟨S3, hS3, kS⟩ := sep_call HU1.out
  have KS := Lib.hid kS
  clear kS
  go_wp2_with fail
  refine (wal_add gl gd _ (dNew 100) ⟨#[97]⟩ S3 _ (dNew_wf 100) (by simp) (by decide) hS3).mono ?_
  rintro e w3 ⟨rfl, hu⟩
  rw [show lAdd (dNew 100) (⟨#[97]⟩ : ByteArray).data.toList = (0, a2) from HR1.out] at hu ⊢
  have HU2 := Lib.hid (KS.out _ _ hu)
  clear KS hu hS3 HU1 HR1
  obtain ⟨S3, hS3, kS⟩ := sep_call HU2.out
  have KS := Lib.hid kS
  clear kS
  go_wp2_with fail
  refine (wal_force gl gd _ a2 S3 _ hS3).mono ?_
  rintro e w4 ⟨rfl, hu⟩
  rw [HS1.out] at hu ⊢
  have HU3 := Lib.hid (KS.out _ _ hu)
  clear KS hu hS3 HU2 HS1
  obtain ⟨S3, hS3, kS⟩ := sep_call HU3.out
  have KS := Lib.hid kS
  clear kS
  go_wp2_with fail
  refine (wal_add gl gd _ s2 ⟨#[98]⟩ S3 _ hw2 (by simp) (by decide) hS3).mono ?_
  rintro e w5 ⟨rfl, hu⟩
  rw [show lAdd s2 (⟨#[98]⟩ : ByteArray).data.toList = (0, a4) from HR3.out] at hu ⊢
  have HU4 := Lib.hid (drop_log (KS.out _ _ hu))
  clear KS hu hS3 HU3 HR3
  obtain ⟨S3, h3, k3⟩ := one_call HU4.out
  have K3 := Lib.hid k3
  clear k3
  go_wp2_with fail
  refine (d_off gd a4 1 0 S3 _ hw3 h3).mono ?_
  rintro e w6 ⟨rfl, hu⟩
  have HU5 := Lib.hid (K3.out _ _ hu)
  clear K3 hu h3 HU4
  obtain ⟨S3, h3, k3⟩ := one_call HU5.out
  have K3 := Lib.hid k3
  clear k3
  go_wp2_with fail
  refine (d_on gd _ S3 _ hw4 hbo h3).mono ?_
  rintro e w7 ⟨rfl, hu⟩
  rw [HST.out] at hu
  have HU6 := Lib.hid (K3.out _ _ hu)
  clear K3 hu h3 HU5 HST
  obtain ⟨S3, h3, k3⟩ := Upd.call (L := []) (by simp) HU6.out
  have K3 := Lib.hid k3
  clear k3
  go_wp2_with fail
  refine (wal_open gd _ S3 _ hw5 HDN.out h3).mono ?_
  rintro e w8 ⟨gl2, v2, rfl, hu⟩
  rw [HQ.out] at hu
  have HU7 := Lib.hid (only_open HU6.out K3.out hu)
  clear hu h3 K3 HU6
  obtain ⟨S4, hrows⟩ := (HU7.out.swap).head
  obtain ⟨ao2, c2, rfl, hrd⟩ := hrows.read
  obtain ⟨b, o, rfl, hcell⟩ := hrd.at (i := 0) (v := .string ⟨#[97]⟩) rfl
  rw [Nat.add_zero] at hcell
  have HFF := Lib.hid HU7.out.fr
  clear hrows hrd HU7
  go_wp2
  go_ret
  exact ⟨rfl, HFF.out⟩

set_option maxHeartbeats 1000000 in
theorem wal_scans_row (s : ByteArray) (hs : s.size ≤ 140737488351232) (w : World) :
    Calls Try.prog 7 #[.string s] w fun e w' => e = .returned (.bool true) ∧ Below w.heap.size w w' := by
  by_cases h : s.size ≤ 4096
  · have h2 : decide (4096 < (s.size : Int)) = false := decide_eq_false (show ¬ (4096 : Int) < (s.size : Int) by omega)
    have hlen : (wScan s.data.toList).1.length ≤ 1000000 := by
      have := (wScan_le s.data.toList.length s.data.toList (Nat.le_refl _)).2
      rw [ba_len] at this
      omega
    go_enter Try.func7, Try.ntmps7
    go_wp2_with fail
    refine (wal_alive _).mono ?_
    rintro e w1 ⟨rfl, hf⟩
    go_wp2_with fail
    refine (wal_scan s _ (by omega)).mono ?_
    rintro e w2 ⟨v, rfl, hown, hf2⟩
    obtain ⟨ao, c, rfl, hrd⟩ := own_rd hown
    have HF := Lib.hid (hf.trans hf2)
    clear hown hf hf2
    have HRD := Lib.hid hrd
    clear hrd
    go_wp2_with fail
    refine (ref_scan s _ (by omega)).mono ?_
    rintro e w3 ⟨v, rfl, hown, hf2⟩
    obtain ⟨ao2, c2, rfl, hrd2⟩ := own_rd hown
    have HF2 := Lib.hid (HF.out.trans hf2)
    have hrd := HRD.out.fr hf2
    clear hown hf2
    have hsame := fun w' (hf : Fr w3 w') => ref_same ao ao2 c c2 _ _ w' hlen hlen (hrd.fr hf) (hrd2.fr hf)
    simp only [decide_true] at hsame
    have HS := Lib.hid hsame
    clear hsame hrd hrd2
    generalize (wScan s.data.toList).1.length = n at *
    generalize (wScan s.data.toList).2 = m at *
    go_wp2_with fail
    refine (HS.out _ (Fr.refl w3)).mono ?_
    rintro e w4 ⟨rfl, hf⟩
    have HF3 := Lib.hid (HF2.out.trans hf)
    clear hf
    go_wp2
    go_ret
    exact ⟨rfl, HF3.out⟩
  · have h2 : decide (4096 < (s.size : Int)) = true := decide_eq_true (show (4096 : Int) < (s.size : Int) by omega)
    go_enter Try.func7, Try.ntmps7
    go_wp2_with fail
    refine (wal_alive _).mono ?_
    rintro e w1 ⟨rfl, hf⟩
    go_wp2
    go_ret
    exact ⟨rfl, hf⟩

end Go.Proofs.Ythdhcllljmkamaa
