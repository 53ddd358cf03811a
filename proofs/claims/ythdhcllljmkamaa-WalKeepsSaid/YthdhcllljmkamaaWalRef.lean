/- The walks of the reference's Scan, and of Same. -/
import Derived.Test.YthdhcllljmkamaaWalScan
import Derived.Test.YthdhcllljmkamaaReg
namespace Go.Proofs.Ythdhcllljmkamaa
open Go.RowKit
set_option linter.unusedVariables false

theorem frame_test (l : List UInt8) (h6 : 6 ≤ l.length) (hn : wNum l + 6 ≤ l.length) : ((baOf (wFrame ((l.take (wNum l + 2)).drop 2))).toList == (baOf (l.take (wNum l + 6))).toList) = (wNext l).isSome := by
  rw [ByteArray.toList_eq, ByteArray.toList_eq]
  show (wFrame ((l.take (wNum l + 2)).drop 2) == l.take (wNum l + 6)) = _
  unfold wNext
  rw [if_neg (by omega)]
  have h := wNext_frame l h6 hn
  cases hg : crcGood (l.take (wNum l + 6))
  · rw [if_neg (by exact Bool.false_ne_true)]
    rw [hg] at h
    show _ = false
    rw [beq_eq_false_iff_ne]
    intro he
    exact Bool.false_ne_true (h.2 he)
  · rw [if_pos rfl, h.1 hg]
    show _ = true
    exact beq_self_eq_true _

set_option maxHeartbeats 4000000 in
set_option maxRecDepth 100000 in
theorem ref_scan (s : ByteArray) (w : World) (hs : s.size ≤ 1000000) :
    Calls Try.prog 31 #[.string s] w (ScanPost s.data.toList w) := by
  obtain ⟨i0, hi, hz0, hz1, hz2⟩ := info_parts infoStr
  go_enter Try.func31, Try.ntmps31
  go_wp2_with fail
  go_loopw [4, 5] (fun v i wr => ∃ (k : Nat) (out : List (List UInt8)), k ≤ s.size ∧ out.length ≤ k ∧ i = .int .i64 k ∧ Hid (wr.ownsRow w.heap.size 9 1 v out.length (recRow out)) ∧ Hid (Fr w wr) ∧ Hid (wScan s.data.toList = (out ++ (wScan (s.data.toList.drop k)).1, k + (wScan (s.data.toList.drop k)).2))) (fun _ i _ => (s.size - intOf i).toNat)
  case atStart => exact ⟨0, [], by omega, Nat.zero_le _, rfl, World.ownsRow_nil _ _ _ _, Fr.refl _, show _ = _ by simp⟩
  case round =>
    obtain ⟨k, out, hk, hok, rfl, hown, hfr, hsc⟩ := hrel
    have htl : (s.extract k s.size).data.toList = s.data.toList.drop k := ba_tail s k
    have hext : (s.extract k s.size).size ≤ 1000000 := by rw [ByteArray.size_extract]; omega
    have hqz : (s.extract k s.size).size = s.size - k := by rw [ByteArray.size_extract]; omega
    have hk2 : (k : Int) ≤ (s.size : Int) := by omega
    obtain ⟨q, hq⟩ : ∃ q, s.extract k s.size = q := ⟨_, rfl⟩
    rw [hq] at htl hext hqz
    have HTL := Lib.hid htl
    have HQZ := Lib.hid hqz
    clear htl hqz
    by_cases h6 : q.size < 6
    · have HST := Lib.hid (wScan_stop hsc.out (by
        rw [← HTL.out]; unfold wNext; rw [if_pos (.inl (by rw [ba_len]; exact h6))]))
      have h60 : decide ((q.size : Int) < 6) = true := decide_eq_true (show (q.size : Int) < 6 by omega)
      clear h6 hsc
      go_wp2
      go_ret2
      unfold ScanPost
      rw [HST.out]
      exact ⟨u4, rfl, hown.out, hfr.out⟩
    · have h60 : decide ((q.size : Int) < 6) = false := decide_eq_false (show ¬ (q.size : Int) < 6 by omega)
      have h0 : 0 < q.size := by omega
      have h1 : 1 < q.size := by omega
      have h11 : 1 < (q.size : Int) := by omega
      have hnn := next_num q (by omega)
      obtain ⟨x0, hx0⟩ : ∃ x0, q[0] = x0 := ⟨_, rfl⟩
      obtain ⟨x1, hx1⟩ : ∃ x1, q[1] = x1 := ⟨_, rfl⟩
      rw [hx0, hx1] at hnn
      have b0 := x0.toNat_lt
      have b1 := x1.toNat_lt
      have k0 : IntKind.i64.wrap (x0.toNat : Int) = x0.toNat := IntWalk.i64_in _ (by omega)
      have k1 : IntKind.i64.wrap (x1.toNat : Int) = x1.toNat := IntWalk.i64_in _ (by omega)
      have k2 : IntKind.i64.wrap ((x0.toNat : Int) * 256) = (x0.toNat : Int) * 256 := IntWalk.i64_in _ (by omega)
      obtain ⟨n, hnx⟩ : ∃ n, x0.toNat * 256 + x1.toNat = n := ⟨_, rfl⟩
      have k3 : IntKind.i64.wrap ((x0.toNat : Int) * 256 + (x1.toNat : Int)) = (n : Int) := by rw [show (x0.toNat : Int) * 256 + (x1.toNat : Int) = (n : Int) by omega]; exact IntWalk.i64_in _ (by omega)
      rw [hnx] at hnn
      have hn5 : n ≤ 65535 := by omega
      have hn6 : decide (65535 < (n : Int)) = false := decide_eq_false (show ¬ 65535 < (n : Int) by omega)
      have k4 : IntKind.i64.wrap ((n : Int) + 6) = (n : Int) + 6 := IntWalk.i64_in _ (by omega)
      have HNN := Lib.hid hnn
      clear hnn hnx
      by_cases hlt : q.size < n + 6
      · have HST := Lib.hid (wScan_stop hsc.out (by
          rw [← HTL.out]; unfold wNext; rw [if_pos (.inr (by rw [ba_len, HNN.out]; exact hlt))]))
        have hlt2 : decide ((q.size : Int) < (n : Int) + 6) = true := decide_eq_true (show (q.size : Int) < (n : Int) + 6 by omega)
        clear hlt hsc h6
        go_wp2_with fail
        go_quiet (fail)
        go_wp2_with fail
        go_quiet (fail)
        go_wp2
        go_ret2
        unfold ScanPost
        rw [HST.out]
        exact ⟨u4, rfl, hown.out, (hfr.out.drewN _).drewN _⟩
      · have hlt2 : decide ((q.size : Int) < (n : Int) + 6) = false := decide_eq_false (show ¬ (q.size : Int) < (n : Int) + 6 by omega)
        have hnl : n + 6 ≤ q.size := by omega
        have HFT := Lib.hid (frame_test q.data.toList (by rw [ba_len]; omega) (by rw [ba_len, HNN.out]; exact hnl))
        have k5 : IntKind.i64.wrap (2 + (n : Int)) = 2 + (n : Int) := IntWalk.i64_in _ (by omega)
        have k6 : (2 : Int) ≤ 2 + (n : Int) := by omega
        have k7 : 2 + (n : Int) ≤ (q.size : Int) := by omega
        have k8 : (2 + (n : Int)).toNat = 2 + n := by omega
        have k9 : (n : Int) + 6 ≤ (q.size : Int) := by omega
        have k10 : 0 ≤ (n : Int) + 6 := by omega
        have k11 : ((n : Int) + 6).toNat = n + 6 := by omega
        have k12 : 0 ≤ 2 + (n : Int) := by omega
        clear hlt
        go_wp2_with fail
        go_quiet (fail)
        go_wp2_with fail
        refine wp_region_pf [([0, 1, 2, 3, 4, 5, 6, 7, 8, 9, 10, 11, 12, 13, 15, 16, 17, 18], 14)] [19, 20] (fun _ => True) (by kernel_rfl) (by kernel_rfl) ?_ trivial ?_
        · intro c a d v w h
          cases d <;> exact h
        refine wpPF_cons ?_
        simp only [pickOps, lk]
        repeat (go_big_quiet_step (fail))
        refine wpQuiet_nil (npOp_want rfl (fun K hK => ?_))
        go_wp2_with fail
        have hq2 : (q.extract 2 (2 + n)).data.toList = (q.data.toList.take (n + 2)).drop 2 := by rw [Lib.extract_data, Nat.add_comm 2 n, List.drop_take]
        have hqz2 : (q.extract 2 (2 + n)).size = n := by rw [ByteArray.size_extract]; omega
        refine (ref_frame (q.extract 2 (2 + n)) _ (by omega)).mono ?_
        rintro e w1 ⟨rfl, hf⟩
        have hg : q.extract 0 (n + 6) = baOf (q.data.toList.take (n + 6)) := ba_ext (by rw [ba_head]; rfl)
        have hcmp : ((baOf (wFrame (q.extract 2 (2 + n)).data.toList)).toList == (q.extract 0 (n + 6)).toList) = (wNext q.data.toList).isSome := by
          rw [hq2, hg, ← HFT.out, HNN.out]
        have hown1 := row_keep hown.out (fun j hj => hf.block j (hown.out.lt j hj).2)
        have HF := Lib.hid (((hfr.out.drewN _).drewN 1).trans hf)
        have HO := Lib.hid hown1
        have hwz : w.heap.size ≤ w1.heap.size := HF.out.size
        have HQ2 := Lib.hid hq2
        have HQZ2 := Lib.hid hqz2
        clear hf hown hfr hq2 hg hown1 hqz2
        generalize baOf (wFrame (q.extract 2 (2 + n)).data.toList) = fr at *
        cases hr : wNext q.data.toList with
        | none =>
          rw [hr] at hcmp
          simp only [Option.isSome] at hcmp
          have HST := Lib.hid (wScan_stop hsc.out (by rw [← HTL.out]; exact hr))
          clear hr hsc
          go_wp2
          refine ⟨trivial, wpPF_nil ?_⟩
          simp only [pickOps, lk]
          repeat (go_big_quiet_step (fail))
          refine wpQuiet_nil ?_
          go_wp2
          go_ret2
          unfold ScanPost
          rw [HST.out]
          exact ⟨u4, rfl, HO.out, HF.out⟩
        | some r =>
          have hrl := wNext_len hr
          rw [HNN.out] at hrl
          have hr' : r = (q.data.toList.take (n + 2)).drop 2 := by
            unfold wNext at hr
            rw [if_neg (by rw [ba_len, HNN.out]; omega)] at hr
            split at hr
            · injection hr with hr; rw [HNN.out] at hr; exact hr.symm
            · cases hr
          rw [hr] at hcmp
          simp only [Option.isSome] at hcmp
          have HST := Lib.hid (wScan_round hsc.out (by rw [← HTL.out]; exact hr))
          have HRB : Hid (q.extract 2 (2 + n) = baOf r) := ba_ext (by rw [HQ2.out, ← hr']; rfl)
          have HRL := Lib.hid hrl.1
          have hrl2 : k + (n + 6) ≤ s.size := by
            have h2 := HQZ.out
            omega
          clear hr hsc hrl hr'
          go_wp2
          refine ⟨trivial, wpPF_nil ?_⟩
          simp only [pickOps, lk]
          repeat (go_big_quiet_step (fail))
          refine wpQuiet_nil ?_
          have hown1 := HO.out
          obtain ⟨i0, hi, hz0, hz1, hz2⟩ := info_parts infoStr
          go_wp2_with (at_builtin; refine wpList_append_own_at _ rfl _ _ 47 rfl w.heap.size 9 i0 (.string ByteArray.empty) 1 16 Try.underlying47 hi hz0 hz1 hz2 rfl (by decide) _ _ _ rfl (hown1.alloc _) ⟨w1.heap.size, 0, none⟩ 1 1 [.string (q.extract 2 (2 + n))] rfl rfl ?c1 ?c2 ?c3 ?c4 ?c5 ?_)
          case c1 =>
            intro j u hj
            match j, hj with
            | 0, hj => simp at hj; subst hj; simp [Addr.add]
          case c2 => intro u hu; simp at hu; subst hu; rfl
          case c3 => unfold maxLen; omega
          case c4 => omega
          case c5 => simp; omega
          intro v' w2 hown2 hgrow _ hat
          have HO2 := Lib.hid hown2
          have HF2 := Lib.hid ((HF.out.alloc (.cells #[.string (q.extract 2 (2 + n))] 9)).grown hgrow (fun j hj => (hown1.lt j hj).1))
          clear hown2 hgrow hat hown1
          go_wp2
          go_roundw
          case rel =>
            refine ⟨k + (r.length + 6), out ++ [r], by rw [HRL.out]; exact hrl2, by rw [List.length_append, List.length_singleton]; omega, ?_, ?_, HF2.out, HST.out⟩
            · rw [HRL.out]; exact val_int (by omega)
            · rw [recRow_snoc, ← HRB.out, List.length_append, List.length_singleton]; exact HO2.out
          case measure =>
            simp only [intOf]
            omega

set_option maxHeartbeats 1000000 in
/-- Same: whether two lists are the same. -/
theorem ref_same (a b : Option Addr) (c d : Nat) (l m : List (List UInt8)) (w : World) (hl : l.length ≤ 1000000) (hm : m.length ≤ 1000000) (ha : RdRow w a (recRow l)) (hb : RdRow w b (recRow m)) :
    Calls Try.prog 32 #[.slice a l.length c, .slice b m.length d] w fun e w' => e = .returned (.bool (decide (l = m))) ∧ Fr w w' := by
  by_cases hlm : l.length = m.length
  · have hd : ((l.length : Int) != (m.length : Int)) = false := by rw [bne_eq_false_iff_eq]; omega
    have hd2 : ((l.length : Int) == (m.length : Int)) = true := by rw [beq_iff_eq]; omega
    have HLM := Lib.hid hlm
    have hlm2 : l.length ≤ m.length := by omega
    clear hlm
    go_enter Try.func32, Try.ntmps32
    go_wp2_with fail
    go_loopw [13] (fun i wr => ∃ k : Nat, k ≤ l.length ∧ i = .int .i64 k ∧ Hid (Fr w wr) ∧ Hid (l.take k = m.take k)) (fun i _ => (l.length - intOf i).toNat)
    case atStart => exact ⟨0, by omega, rfl, Fr.refl w, show _ = _ from rfl⟩
    case round =>
      obtain ⟨k, hk, rfl, hf, htk⟩ := hrel
      by_cases hlt : k < l.length
      · obtain ⟨p, q, rfl, hc1⟩ := (ha.fr hf.out).at (i := k) (v := .string (baOf l[k])) (by simp [recRow, strRow, hlt])
        have hlt2 : k < m.length := by omega
        obtain ⟨p2, q2, rfl, hc2⟩ := (hb.fr hf.out).at (i := k) (v := .string (baOf m[k])) (by simp [recRow, strRow, hlt2])
        have HA := Lib.hid ha
        have HB := Lib.hid hb
        have hlt3 : (k : Int) < (l.length : Int) := by omega
        have hlt4 : (k : Int) < (m.length : Int) := by omega
        have hk0 : 0 ≤ (k : Int) := by omega
        clear ha hb
        have e1 : l.take (k + 1) = l.take k ++ [l[k]] := List.take_succ_eq_append_getElem hlt
        have e2 : m.take (k + 1) = m.take k ++ [m[k]] := List.take_succ_eq_append_getElem hlt2
        have HE1 := Lib.hid e1
        have HE2 := Lib.hid e2
        clear e1 e2
        by_cases heq : l[k] = m[k]
        · have he : ((baOf l[k]).toList == (baOf m[k]).toList) = true := by rw [heq]; exact beq_self_eq_true _
          have HEQ := Lib.hid heq
          clear heq
          go_wp2_with fail
          go_quiet (fail)
          go_wp2
          go_roundw
          case rel => exact ⟨k + 1, by omega, by go_num, hf.out.drewN _, show _ = _ by rw [HE1.out, HE2.out, htk.out, HEQ.out]⟩
          case measure => simp [intOf]; omega
        · have he : ((baOf l[k]).toList == (baOf m[k]).toList) = false := by
            rw [beq_eq_false_iff_ne, ByteArray.toList_eq, ByteArray.toList_eq]
            exact heq
          have HNE : Hid (decide (l = m) = false) := decide_eq_false (fun e => heq (by subst e; rfl))
          clear heq
          go_wp2_with fail
          go_quiet (fail)
          go_wp2
          go_ret
          rw [HNE.out]
          exact ⟨rfl, hf.out.drewN _⟩
      · obtain rfl : k = l.length := by omega
        have HEQ : Hid (decide (l = m) = true) := decide_eq_true (by
          have h := htk.out
          rw [List.take_of_length_le (Nat.le_refl _), List.take_of_length_le (by rw [HLM.out]; exact Nat.le_refl _)] at h
          exact h)
        go_wp2
        go_ret
        rw [HEQ.out]
        exact ⟨rfl, hf.out⟩
  · have hd : ((l.length : Int) != (m.length : Int)) = true := by rw [bne_iff_ne]; omega
    have hd2 : ((l.length : Int) == (m.length : Int)) = false := by rw [beq_eq_false_iff_ne]; omega
    have HNE : Hid (decide (l = m) = false) := decide_eq_false (fun e => hlm (by rw [e]))
    clear hlm
    go_enter Try.func32, Try.ntmps32
    go_wp2
    go_ret
    rw [HNE.out]
    exact ⟨rfl, Fr.refl w⟩

end Go.Proofs.Ythdhcllljmkamaa
