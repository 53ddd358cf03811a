/- The walk of WalKeeps. -/
import Derived.Test.YthdhcllljmkamaaWalRoom
import Derived.Test.YthdhcllljmkamaaWalKeepsPure
namespace Go.Proofs.Ythdhcllljmkamaa
open Go.RowKit
set_option linter.unusedVariables false

def byt (s : ByteArray) : List UInt8 := s.data.toList
theorem recRow_bytes (ss : List ByteArray) : recRow (ss.map byt) = strRow ss := by
  unfold recRow
  rw [List.map_map]
  congr 1
  conv => rhs; rw [← List.map_id ss]
  apply List.map_congr_left
  intro s _
  exact ba_ext rfl
theorem take_map_succ (ss : List ByteArray) (k : Nat) (h : k < ss.length) : (ss.take (k + 1)).map byt = (ss.take k).map byt ++ [ss[k].data.toList] := by
  rw [List.take_succ_eq_append_getElem h, List.map_append]
  rfl
theorem frames_le (ss : List ByteArray) (k : Nat) : (wFrames ((ss.take k).map byt)).length ≤ (wFrames (ss.map byt)).length := by
  have h : ss.map byt = (ss.take k).map byt ++ (ss.drop k).map byt := by rw [← List.map_append, List.take_append_drop]
  rw [h, wFrames_append, List.length_append]
  omega
theorem frames_one (l : List (List UInt8)) (s : List UInt8) : (wFrames (l ++ [s])).length = (wFrames l).length + (s.length + 6) := by
  rw [wFrames_append, List.length_append]
  simp [wFrames, wFrame_len]
theorem frames_many (l : List (List UInt8)) : 6 * l.length ≤ (wFrames l).length := by
  induction l with
  | nil => simp [wFrames]
  | cons s l ih =>
    have e : wFrames (s :: l) = wFrame s ++ wFrames l := by simp [wFrames]
    rw [e, List.length_append, wFrame_len, List.length_cons]
    omega

theorem rd_take {w : World} {a : Option Addr} {vs : List Value} (h : RdRow w a vs) (n : Nat) : RdRow w a (vs.take n) := by
  rcases h with rfl | ⟨b, o, ha, hc⟩
  · exact .inl (by simp)
  · refine .inr ⟨b, o, ha, fun i v hv => hc i v ?_⟩
    have hi := (List.getElem?_eq_some_iff.1 hv).1
    rw [List.length_take] at hi
    rw [← hv, List.getElem?_take_of_lt (by omega)]

set_option maxHeartbeats 8000000 in
set_option maxRecDepth 100000 in
theorem wal_keeps_law (w : World) (a : Option Addr) (cap : Nat) (ss : List ByteArray) (hm : ss.length ≤ 9000000000000) (hr : RdRow w a (strRow ss)) (hca : (a = none ∧ ss.length = 0 ∧ cap = 0) ∨ (∃ ad, a = some ad) ∧ ss.length ≤ cap) (hss : ∀ s ∈ ss, s.size ≤ maxLen) (forced : Int) (hforced : (Lit.int .i64 forced).wf = true) (keep : Int) (hkeep : (Lit.int .i64 keep).wf = true) (turn : Int) (hturn : (Lit.int .u8 turn).wf = true) :
    Calls Try.prog 8 #[.slice a ss.length cap, .int .i64 forced, .int .i64 keep, .int .u8 turn] w fun e w' => e = .returned (.bool true) ∧ Below w.heap.size w w' := by
  unfold maxLen at hss
  obtain ⟨t8, rfl⟩ : ∃ t8 : UInt8, turn = (t8.toNat : Int) := by
    have hb2 := wf_u8 hturn
    exact ⟨UInt8.ofNat turn.toNat, by rw [UInt8.toNat_ofNat', Nat.mod_eq_of_lt (by omega), Int.toNat_of_nonneg hb2.1]⟩
  have HCA := Lib.hid hca
  clear hforced hkeep hturn hca
  have HSS := Lib.hid hss
  clear hss
  go_enter Try.func8, Try.ntmps8
  go_wp2_with fail
  refine (wal_alive _).mono ?_
  rintro e w1 ⟨rfl, hf⟩
  have HF := Lib.hid hf
  have hr1 := hr.fr hf
  clear hf
  go_wp2_with fail
  go_loop [9, 24] (fun n i => ∃ (k q : Nat), k ≤ ss.length ∧ q ≤ 4096 * k ∧ i = .int .i64 k ∧ n = .int .i64 q ∧ Hid (∀ i (h : i < ss.length), i < k → ss[i].size ≤ 4096) ∧ Hid ((wFrames ((ss.take k).map byt)).length = q + 6 * k)) (fun _ i => (ss.length - intOf i).toNat)
  case atStart => exact ⟨0, 0, by omega, by omega, rfl, rfl, fun i _ h => by omega, rfl⟩
  case round =>
    obtain ⟨k, q, hk, hq, rfl, rfl, hall, hfl⟩ := hrel
    by_cases hlt : k < ss.length
    · obtain ⟨b, o, rfl, hcell⟩ := hr1.at (i := k) (v := .string ss[k]) (by simp [strRow, hlt])
      have HR := Lib.hid hr
      have HR1 := Lib.hid hr1
      have hsz := HSS.out ss[k] (List.getElem_mem hlt)
      have HT := Lib.hid (take_map_succ ss k hlt)
      clear hr hr1
      obtain ⟨s, hs⟩ : ∃ s, ss[k] = s := ⟨_, rfl⟩
      have HS := Lib.hid hs
      rw [hs] at hcell hsz HT
      clear hs
      by_cases hbig : s.size ≤ 4096
      · have h1 : decide (4096 < (s.size : Int)) = false := decide_eq_false (show ¬ (4096 : Int) < (s.size : Int) by omega)
        have hqq : q + s.size ≤ 4096 * (k + 1) := by omega
        have HQQ := Lib.hid hqq
        clear hqq
        go_wp2
        go_round
        case rel =>
          refine ⟨k + 1, q + s.size, by omega, HQQ.out, by go_num, by go_num, fun i h hi => ?_, ?_⟩
          · by_cases e : i = k
            · subst e; rw [HS.out]; exact hbig
            · exact hall.out i h (by omega)
          · show _ = _
            rw [HT.out, frames_one, hfl.out, ba_len]
            omega
        case measure => simp [intOf]; omega
      · have h1 : decide (4096 < (s.size : Int)) = true := decide_eq_true (show (4096 : Int) < (s.size : Int) by omega)
        clear hbig
        go_wp2
        go_ret
        exact ⟨rfl, HF.out⟩
    · obtain rfl : k = ss.length := by omega
      have HALL : Hid (∀ i (h : i < ss.length), ss[i].size ≤ 4096) := fun i h => hall.out i h h
      have HFL := Lib.hid hfl.out
      rw [List.take_length] at HFL
      clear hall hlt hfl
      by_cases h40 : ss.length ≤ 40
      · have h41 : decide (40 < (ss.length : Int)) = false := decide_eq_false (show ¬ (40 : Int) < (ss.length : Int) by omega)
        by_cases hq2 : q ≤ 8192
        · have h42 : decide (8192 < (q : Int)) = false := decide_eq_false (show ¬ (8192 : Int) < (q : Int) by omega)
          by_cases hf0 : forced < 0
          · have h43 : decide (forced < 0) = true := decide_eq_true hf0
            clear hf0
            go_wp2
            go_ret
            exact ⟨rfl, HF.out⟩
          · have h43 : decide (forced < 0) = false := decide_eq_false hf0
            by_cases hfn : (ss.length : Int) < forced
            · have h44 : decide ((ss.length : Int) < forced) = true := decide_eq_true hfn
              clear hf0 hfn
              go_wp2
              go_ret
              exact ⟨rfl, HF.out⟩
            · have h44 : decide ((ss.length : Int) < forced) = false := decide_eq_false hfn
              obtain ⟨f, rfl⟩ : ∃ f : Nat, forced = (f : Int) := ⟨forced.toNat, by omega⟩
              have hfn2 : f ≤ ss.length := by omega
              clear hf0 hfn
              go_wp2_with fail
              refine (d_new 65536 _).mono ?_
              rintro e w2 ⟨rfl, hf, hd⟩
              have hU := Upd.back HF.out (Upd.new (L := []) (by simp) (Upd.start w1) hf _ hd (fun k hk => Nat.le_of_eq hk.symm))
              generalize w1.heap.size = gd at hU ⊢
              have HU := Lib.hid hU
              clear hf hd hU hr1
              obtain ⟨S1, h1, k1⟩ := open_step HU.out
              have K1 := Lib.hid k1
              clear k1
              go_wp2_with fail
              refine (wal_open gd _ S1 _ (dNew_wf 65536) rfl h1).mono ?_
              rintro e w3 ⟨gl, v, rfl, hu⟩
              have hsc : wScan (dNew 65536).all = ([], 0) := wScan_nil
              rw [hsc, open_new] at hu
              have HU1 := Lib.hid (drop_rows (K1.out _ _ _ _ _ _ hu))
              clear hu K1 h1 HU hsc h41 h42 h43 h44
              go_wp2_with fail
              go_loopw [64] (fun i wr => ∃ (k : Nat) (st : DSt), k ≤ ss.length ∧ i = .int .i64 k ∧ Hid (Upd (fun _ => False) (Sep [IsL gl gd k, IsD gd st]) w wr) ∧ Hid (st.down = false) ∧ Hid st.wf ∧ Hid (st.boots = 1) ∧ Hid (st.size = 65536) ∧ Hid (Kept st ((ss.take k).map byt) f)) (fun i _ => (ss.length - intOf i).toNat)
              case atStart => exact ⟨0, dNew 65536, by omega, rfl, HU1.out, rfl, dNew_wf 65536, rfl, (show (dNew 65536).size = 65536 by decide), ⟨[], [], rfl, rfl, rfl, fun h => h⟩⟩
              case round =>
                obtain ⟨k, st, hk, rfl, hU, hdn, hwf, hbo, hsize, hkept⟩ := hrel
                by_cases hlt : k < ss.length
                · obtain ⟨b, o, rfl, hcell⟩ := (hr.fr hU.out.fr).at (i := k) (v := .string ss[k]) (by simp [strRow, hlt])
                  have HR := Lib.hid hr
                  have hsz := HALL.out k hlt
                  have HT := Lib.hid (take_map_succ ss k hlt)
                  have hfit : st.all.length + (ss[k].data.toList.length + 6) ≤ st.size := by
                    have e1 := frames_le ss (k + 1)
                    rw [HT.out, frames_one] at e1
                    rw [hkept.out.all, hsize.out]
                    have := HFL.out
                    omega
                  have hadd := lAdd_fits hdn.out (s := ss[k].data.toList) (by rw [ba_len]; omega) hfit
                  have hlen : ((ss.take k).map byt).length = k := by rw [List.length_map, List.length_take]; omega
                  have HLEN := Lib.hid hlen
                  clear hr hfit hlen
                  obtain ⟨s, hs⟩ : ∃ s, ss[k] = s := ⟨_, rfl⟩
                  rw [hs] at hcell hsz HT hadd
                  clear hs
                  obtain ⟨S2, hS2, k2⟩ := sep_call hU.out
                  have K2 := Lib.hid k2
                  have hal := wal_add gl gd k st s S2 _ hwf.out (by omega) (by omega) hS2
                  have hwf2 := lAdd_wf hwf.out s.data.toList
                  rw [hadd] at hal hwf2
                  have HAL := Lib.hid hal
                  have HWF2 := Lib.hid hwf2
                  clear k2 hS2 hal hwf2 hadd
                  go_wp2_with fail
                  refine HAL.out.mono ?_
                  rintro e w4 ⟨rfl, hu⟩
                  have HU2 := Lib.hid (K2.out _ _ hu)
                  clear hu K2 HAL hcell hU
                  by_cases hfk : f = k + 1
                  · have h1 : ((k : Int) + 1 == (f : Int)) = true := by rw [beq_iff_eq]; omega
                    obtain ⟨S3, hS3, k3⟩ := sep_call HU2.out
                    have hfo := wal_force gl gd _ _ S3 _ hS3
                    have hds : dSync { st with loose := st.loose ++ wFrame s.data.toList } = (0, { st with safe := st.all ++ wFrame s.data.toList, loose := [] }) := by
                      unfold dSync
                      rw [if_neg (by show ¬ st.down = true; rw [hdn.out]; exact Bool.false_ne_true)]
                      simp [DSt.all]
                    have hwf3 := dSync_wf HWF2.out
                    rw [hds] at hfo hwf3
                    have HFO := Lib.hid hfo
                    have HWF3 := Lib.hid hwf3
                    have K3 := Lib.hid k3
                    have HFK := Lib.hid hfk
                    clear k3 hS3 hfo hwf3 hds hfk
                    go_wp2_with fail
                    refine HFO.out.mono ?_
                    rintro e w5 ⟨rfl, hu⟩
                    have HU3 := Lib.hid (K3.out _ _ hu)
                    clear hu K3 HFO HU2
                    go_wp2
                    go_roundw
                    case rel => exact ⟨k + 1, _, by omega, by go_num, HU3.out, hdn.out, HWF3.out, hbo.out, hsize.out, by show Kept _ _ _; rw [HT.out]; exact hkept.out.force s.data.toList (by rw [HLEN.out]; exact HFK.out) _ rfl rfl⟩
                    case measure => simp [intOf]; omega
                  · have h1 : ((k : Int) + 1 == (f : Int)) = false := by rw [beq_eq_false_iff_ne]; omega
                    have HFK := Lib.hid hfk
                    clear hfk
                    go_wp2
                    go_roundw
                    case rel => exact ⟨k + 1, _, by omega, by go_num, HU2.out, hdn.out, HWF2.out, hbo.out, hsize.out, by show Kept _ _ _; rw [HT.out]; exact hkept.out.add s.data.toList (by rw [HLEN.out]; exact HFK.out)⟩
                    case measure => simp [intOf]; omega
                · obtain rfl : k = ss.length := by omega
                  clear hlt
                  rw [List.take_length] at hkept
                  obtain ⟨m, hm1, hm2, hm3⟩ := hkept.out.cut hdn.out (by rw [List.length_map]; exact hfn2) (fun s hs => by
                    obtain ⟨t, ht, rfl⟩ := List.mem_map.1 hs
                    obtain ⟨i, hi, rfl⟩ := List.getElem_of_mem ht
                    have := HALL.out i hi
                    show (ss[i].data.toList).length ≤ _
                    rw [ba_len]
                    omega) keep t8
                  rw [List.length_map] at hm2
                  have HM3 := Lib.hid hm3
                  clear hm3
                  have hU1 := drop_log hU.out
                  obtain ⟨S3, h3, k3⟩ := one_call hU1
                  have K3 := Lib.hid k3
                  clear k3 hU1
                  go_wp2_with fail
                  refine (d_off gd st keep t8 S3 _ hwf.out h3).mono ?_
                  rintro e w4 ⟨rfl, hu⟩
                  have HU2 := Lib.hid (K3.out _ _ hu)
                  clear hu K3 h3
                  obtain ⟨S3, h3, k3⟩ := one_call HU2.out
                  have K3 := Lib.hid k3
                  clear k3
                  go_wp2_with fail
                  refine (d_on gd _ S3 _ (dOff_wf hwf.out _ _) (by rw [dOff_boots, hbo.out]; decide) h3).mono ?_
                  rintro e w5 ⟨rfl, hu⟩
                  have HU3 := Lib.hid (K3.out _ _ hu)
                  clear hu K3 h3 HU2
                  have hwf3 := dOn_wf (dOff_wf hwf.out keep t8)
                  have hdn3 := dOn_down (dOff st keep t8)
                  generalize dOn (dOff st keep t8) = st3 at *
                  obtain ⟨S4, h4, k4⟩ := open_step HU3.out
                  have K4 := Lib.hid k4
                  clear k4
                  go_wp2_with fail
                  refine (wal_open gd st3 S4 _ hwf3 hdn3 h4).mono ?_
                  rintro e w6 ⟨gl2, v2, rfl, hu⟩
                  rw [HM3.out] at hu
                  have HU4 := Lib.hid (K4.out _ _ _ _ _ _ hu)
                  clear hu K4 h4 HU3
                  obtain ⟨S5, hrx⟩ := (HU4.out.swap).head
                  obtain ⟨ao2, c2, rfl, hrd2⟩ := hrx.read
                  have hrda := (hr.fr HU4.out.fr)
                  have HFF := Lib.hid HU4.out.fr
                  have hrow : recRow ((ss.map byt).take m) = (strRow ss).take m := by
                    rw [← List.map_take, recRow_bytes]
                    simp [strRow, List.map_take]
                  have hrda2 := rd_take hrda m
                  rw [← hrow] at hrda2
                  have hlm : ((ss.map byt).take m).length = m := by rw [List.length_take, List.length_map]; omega
                  generalize (ss.map byt).take m = recs at *
                  subst hlm
                  have HSM := Lib.hid (fun c c' => ref_same ao2 a c c' recs recs w6 (by omega) (by omega) hrd2 hrda2)
                  simp only [decide_true] at HSM
                  clear hrx hrd2 hrda hrda2 hrow HU4 hr HSS HALL hkept hU
                  have j1 : decide ((f : Int) ≤ (recs.length : Int)) = true := decide_eq_true (by omega)
                  have j2 : decide ((recs.length : Int) ≤ (ss.length : Int)) = true := decide_eq_true (by omega)
                  rcases HCA.out with ⟨rfl, h0, rfl⟩ | ⟨⟨ad, rfl⟩, hlc⟩
                  · have hz : recs = [] := List.length_eq_zero_iff.1 (by omega)
                    subst hz
                    have hz : ss = [] := List.length_eq_zero_iff.1 h0
                    subst hz
                    simp only [List.length_nil] at *
                    go_wp2_with fail
                    refine (HSM.out c2 0).mono ?_
                    rintro e w7 ⟨rfl, hf⟩
                    have HF2 := Lib.hid (HFF.out.trans hf)
                    clear hf
                    go_wp2
                    go_ret
                    exact ⟨rfl, HF2.out⟩
                  · go_wp2_with fail
                    refine (HSM.out _ _).mono ?_
                    rintro e w7 ⟨rfl, hf⟩
                    have HF2 := Lib.hid (HFF.out.trans hf)
                    clear hf
                    go_wp2
                    go_ret
                    exact ⟨rfl, HF2.out⟩
        · have h42 : decide (8192 < (q : Int)) = true := decide_eq_true (show (8192 : Int) < (q : Int) by omega)
          go_wp2
          go_ret
          exact ⟨rfl, HF.out⟩
      · have h41 : decide (40 < (ss.length : Int)) = true := decide_eq_true (show (40 : Int) < (ss.length : Int) by omega)
        go_wp2
        go_ret
        exact ⟨rfl, HF.out⟩

end Go.Proofs.Ythdhcllljmkamaa
