/- The walk of DiskKeeps. -/
import Derived.Test.YthdhcllljmkamaaDiskRoom
import Derived.Test.YthdhcllljmkamaaDiskKeepsPure
namespace Go.Proofs.Ythdhcllljmkamaa
open Go.RowKit
set_option linter.unusedVariables false

theorem m_open {gd gm : Nat} {st : DSt} {S : Nat → Prop} {w : World} (h : Sep [IsD gd st, IsM gm st] S w) : ∃ sf ls S2, sf.data.toList = st.safe ∧ ls.data.toList = st.loose ∧ IsMr gm sf ls st.size st.down st.boots S2 w := by
  obtain ⟨S1, S2, h1, ⟨T1, T2, ⟨sf, ls, e1, e2, hm⟩, _⟩, _⟩ := h
  exact ⟨sf, ls, T1, e1, e2, hm⟩
/-- What is read behind the failure, beside what was there. -/
structure Kept (sb sf al : ByteArray) (x : UInt8) : Prop where
  lo : sf.size ≤ sb.size
  hi : sb.size ≤ al.size
  head : (sb.extract 0 sf.size).toList = sf.toList
  cut : ∀ j, j + 1 = sb.size → sf.size ≤ j → (sb.extract 0 j).toList = (al.extract 0 j).toList
  last : ∀ j (h : j < sb.size) (h' : j < al.size), j + 1 = sb.size → sf.size ≤ j → sb[j] ^^^ x = al[j]
theorem kept_of (st : DSt) (keep : Int) (x : UInt8) (hd : st.down = false) (sf ls : ByteArray) (h1 : sf.data.toList = st.safe) (h2 : ls.data.toList = st.loose) :
    Kept ⟨(dOn (dOff st keep x)).all.toArray⟩ sf (sf ++ ls) x ∧ (dOn (dOff st keep x)).safe.length = (dOn (dOff st keep x)).all.length := by
  have e : dOff st keep x = { st with down := true, loose := turnLast (st.loose.take (max keep 0).toNat) x } := by unfold dOff; rw [if_neg (by rw [hd]; exact Bool.false_ne_true)]
  have e2 : dOn (dOff st keep x) = { st with down := false, safe := st.safe ++ turnLast (st.loose.take (max keep 0).toNat) x, loose := [], boots := st.boots + 1 } := by rw [e]; rfl
  have hall : (dOn (dOff st keep x)).all = sf.data.toList ++ turnLast (ls.data.toList.take (max keep 0).toNat) x := by rw [e2, h1, h2]; simp [DSt.all]
  have hsafe : (dOn (dOff st keep x)).safe = sf.data.toList ++ turnLast (ls.data.toList.take (max keep 0).toNat) x := by rw [e2, h1, h2]
  refine ⟨?_, by rw [hall, hsafe]⟩
  rw [hall]
  generalize (max keep 0).toNat = k
  have hbz : (⟨(sf.data.toList ++ turnLast (ls.data.toList.take k) x).toArray⟩ : ByteArray).size = (sf.data.toList ++ turnLast (ls.data.toList.take k) x).length := by show Array.size _ = _; rw [List.size_toArray]
  have hlen := left_len sf.data.toList ls.data.toList k x
  have hal : (sf ++ ls).data.toList = sf.data.toList ++ ls.data.toList := ba_append _ _
  have halz : (sf ++ ls).size = (sf.data.toList ++ ls.data.toList).length := by rw [← ba_len, hal]
  constructor
  · rw [hbz, List.length_append, ba_len]; omega
  · rw [hbz, halz]; exact hlen
  · rw [ByteArray.toList_eq, ByteArray.toList_eq, ba_head]
    show List.take _ (sf.data.toList ++ _) = _
    rw [← ba_len sf]
    exact left_head _ _
  · intro j hj hA
    rw [ByteArray.toList_eq, ByteArray.toList_eq, ba_head, ba_head, hal]
    exact (left_same sf.data.toList ls.data.toList k x j (by rw [← hbz]; exact hj) (by rw [ba_len]; exact hA)).1
  · intro j h h' hj hA
    have := (left_same sf.data.toList ls.data.toList k x j (by rw [← hbz]; exact hj) (by rw [ba_len]; exact hA)).2 (by rw [← hbz]; exact h) (by rw [← halz]; exact h')
    have e3 : (sf ++ ls)[j] = (sf.data.toList ++ ls.data.toList)[j]'(by rw [← halz]; exact h') := by
      have : (sf ++ ls)[j] = (sf ++ ls).data.toList[j]'(by rw [ba_len]; exact h') := rfl
      rw [this]
      simp only [hal]
    rw [e3, ← this]
    rfl

set_option maxHeartbeats 4000000 in
set_option maxRecDepth 100000 in
theorem disk_keeps_law (size : Int) (a : Option Addr) (cap : Nat) (cs : List DCall) (keep : Int) (x : UInt8) (w : World) (hm : cs.length ≤ 140737488351232) (hr : RdRow w a (callRow cs)) :
    Calls Try.prog 4 #[.int .i64 size, .slice a cs.length cap, .int .i64 keep, .int .u8 (x.toNat : Int)] w fun e w' => e = .returned (.bool true) ∧ Fr w w' := by
  go_enter Try.func4, Try.ntmps4
  go_wp2_with fail
  refine (disk_alive _).mono ?_
  rintro e w1 ⟨rfl, hf⟩
  go_wp2_with fail
  refine (disk_great a cap cs _ hm (hr.fr hf)).mono ?_
  rintro e w2 ⟨r, rfl, hf2, hmod⟩
  have HF := Lib.hid (hf.trans hf2)
  have HM := Lib.hid hmod
  clear hf hf2 hmod
  cases r
  · have hmod := HM.out (by simp)
    have h60 := hmod.1
    have HM2 := Lib.hid hmod
    clear HM hmod
    go_wp2_with fail
    refine (d_new size _).mono ?_
    rintro e w3 ⟨rfl, hf3, hd⟩
    go_wp2_with fail
    refine (m_new size _).mono ?_
    rintro e w4 ⟨rfl, hf4, hm4⟩
    have HU := Lib.hid (both_new HF.out hf3 hd hf4 hm4)
    generalize w2.heap.size = gd at HU ⊢
    generalize w3.heap.size = gm at HU ⊢
    clear hf3 hd hf4 hm4 HF
    go_wp2_with fail
    go_loopw [26] (fun i wr => ∃ k : Nat, k ≤ cs.length ∧ i = .int .i64 k ∧ Hid (Upd (fun _ => False) (Sep [IsD gd (dPlays (dNew size) (cs.take k)), IsM gm (dPlays (dNew size) (cs.take k))]) w wr)) (fun i _ => (cs.length - intOf i).toNat)
    case atStart => exact ⟨0, by omega, rfl, HU.out⟩
    case round =>
      obtain ⟨k, hk, rfl, hU⟩ := hrel
      have hwf := dPlays_wf (dNew_wf size) (cs.take k)
      have hbo := plays_boots size cs k h60
      by_cases hlt : k < cs.length
      · have hsz := HM2.out.2 k hlt
        have HPS := Lib.hid (dPlays_succ (dNew size) cs k hlt)
        obtain ⟨b, o, rfl, x0, x1, x2, x3⟩ := rdCalls_at (hr.fr hU.out.fr) hlt
        have HR := Lib.hid hr
        clear hr
        generalize dPlays (dNew size) (cs.take k) = st at *
        obtain ⟨c, hc⟩ : ∃ c, cs[k] = c := ⟨_, rfl⟩
        rw [hc] at x0 x1 x2 x3 hsz HPS
        clear hc
        go_wp2_with fail
        obtain ⟨S, hS, kS⟩ := sep_call (keep2 hU.out ((Fr.refl wr).alloc (Obj.cells #[Value.int IntKind.i64 c.kind, Value.string c.s, Value.int IntKind.i64 c.n, Value.int IntKind.u8 (c.turn.toNat : Int)] 30)))
        have KS := Lib.hid kS
        clear kS
        refine (disk_does gd gm st c S _ hwf hbo hsz hS).mono ?_
        rintro e w6 ⟨rfl, hu⟩
        have HU2 := Lib.hid (KS.out _ _ hu)
        clear KS hu hS x0 x1 x2 x3
        go_wp2
        go_roundw
        case rel => exact ⟨k + 1, by omega, by go_num, by rw [HPS.out]; exact HU2.out⟩
        case measure => simp [intOf]; omega
      · obtain rfl : k = cs.length := by omega
        have HWF := Lib.hid hwf
        have hbo2 : (dPlays (dNew size) (cs.take cs.length)).boots ≤ 999999 := by
          have h1 := dPlays_boots (dNew size) (cs.take cs.length)
          have h2 : (cs.take cs.length).length ≤ cs.length := List.length_take_le' ..
          have h3 : (dNew size).boots = 1 := rfl
          omega
        clear hwf hlt
        generalize dPlays (dNew size) (cs.take cs.length) = st at *
        -- the power is back, for both
        obtain ⟨S1, h1, _, k1⟩ := Upd.callAt (L1 := []) (L2 := [IsM gm st]) (local1 gm st) hU.out
        have K1 := Lib.hid k1
        clear k1
        go_wp2_with fail
        refine (d_on gd st S1 _ HWF.out hbo h1).mono ?_
        rintro e w5 ⟨rfl, hu⟩
        have HU2 := Lib.hid (K1.out _ _ hu)
        clear h1 K1 hu hU
        obtain ⟨S1, h1, _, k1⟩ := Upd.callAt (L1 := [IsD gd (dOn st)]) (L2 := []) (local1d gd _) HU2.out
        have K1 := Lib.hid k1
        clear k1
        go_wp2_with fail
        refine (m_on gm st S1 _ HWF.out hbo h1).mono ?_
        rintro e w6 ⟨rfl, hu⟩
        have HU3 := Lib.hid (show Upd (fun _ => False) (Sep [IsD gd (dOn st), IsM gm (dOn st)]) w w6 from K1.out _ _ hu)
        have hdn := dOn_down st
        have hwf1 := dOn_wf HWF.out
        have hbo3 : (dOn st).boots ≤ 1000000 := by
          unfold dOn
          split
          · show st.boots + 1 ≤ 1000000; omega
          · omega
        clear h1 K1 hu HU2 HWF hbo hbo2
        generalize dOn st = st1 at *
        have HDN := Lib.hid hdn
        have HWF := Lib.hid hwf1
        clear hdn hwf1
        obtain ⟨S, hS, _⟩ := sep_call HU3.out
        obtain ⟨sf, ls, S2, e1, e2, hmr⟩ := m_open hS
        have hsz1 : sf.size + ls.size ≤ 262144 := by
          have h1 := HWF.out.1
          have h2 := HWF.out.2
          rw [len_all, ← e1, ← e2, ba_len, ba_len] at h1
          omega
        obtain ⟨hK, hsl⟩ := kept_of st1 keep x HDN.out sf ls e1 e2
        have hkeep : (dOff st1 keep x).down = true := by unfold dOff; rw [if_neg (by rw [HDN.out]; exact Bool.false_ne_true)]
        have hwf2 := dOff_wf HWF.out keep x
        have hbo4 : (dOff st1 keep x).boots ≤ 1000000 := by unfold dOff; split <;> exact hbo3
        obtain ⟨hb, _⟩ := hmr
        obtain ⟨c0, c1, c2, c3, c4, f0, f1, f2, f3, f4⟩ := cells5 hb
        have k1 : ¬ 9223372036854775807 < sf.size + ls.size := by omega
        have HK := Lib.hid hK
        have HSL := Lib.hid hsl
        have HKP := Lib.hid hkeep
        have HWF2 := Lib.hid hwf2
        clear hS e1 e2 hb hK hsl hkeep hwf2 hbo3
        go_wp2_with fail
        go_quiet (fail)
        clear k1 c0 c1 c2 c3 c4 f0 f1 f2 f3 f4
        have HU4 := Lib.hid (only_d (keep2 HU3.out ((Fr.refl w6).drewN nq)))
        generalize w6.drewN nq = w7 at *
        have hals : (sf ++ ls).size = sf.size + ls.size := ByteArray.size_append
        generalize sf ++ ls = al at *
        have HALS := Lib.hid hals
        have hals2 : al.size ≤ 262144 := by omega
        clear hals HU3
        obtain ⟨S1, h1, k1⟩ := one_call HU4.out
        go_wp2_with fail
        refine (d_off gd st1 keep x S1 _ HWF.out h1).mono ?_
        rintro e w8 ⟨rfl, hu⟩
        have HU5 := Lib.hid (k1 _ _ hu)
        clear h1 k1 hu HU4
        generalize dOff st1 keep x = st2 at *
        obtain ⟨S1, h1, k1⟩ := one_call HU5.out
        have hread := d_read gd st2 S1 _ h1
        rw [if_pos HKP.out] at hread
        have hdown := d_down gd st2 S1 _ h1
        rw [HKP.out] at hdown
        have HRD := Lib.hid hread
        have HDW := Lib.hid hdown
        clear hread hdown
        go_wp2_with fail
        refine HRD.out.mono ?_
        rintro e w9 ⟨rfl, rfl⟩
        go_wp2_with fail
        refine HDW.out.mono ?_
        rintro e w9 ⟨rfl, rfl⟩
        clear HRD HDW
        go_wp2_with fail
        refine (d_on gd st2 S1 _ HWF2.out hbo4 h1).mono ?_
        rintro e w9 ⟨rfl, hu⟩
        have HU6 := Lib.hid (k1 _ _ hu)
        clear h1 k1 hu HU5
        have hdn3 := dOn_down st2
        generalize dOn st2 = st3 at *
        obtain ⟨S1, h1, k1⟩ := one_call HU6.out
        have HFF := Lib.hid HU6.out.fr
        have hread := d_read_up gd st3 S1 _ h1 hdn3
        have hsafe := d_safe gd st3 S1 _ h1
        have hbz : (⟨st3.all.toArray⟩ : ByteArray).size = st3.all.length := by show st3.all.toArray.size = _; rw [List.size_toArray]
        rw [HSL.out, ← hbz] at hsafe
        clear hbz hdn3 h1 k1 HSL HU6
        have HRD := Lib.hid hread
        have HSF := Lib.hid hsafe
        clear hread hsafe
        generalize (⟨st3.all.toArray⟩ : ByteArray) = sb at *
        go_wp2_with fail
        refine HRD.out.mono ?_
        rintro e w10 ⟨rfl, rfl⟩
        have hlo := HK.out.lo
        have hhi := HK.out.hi
        have hlo2 : (sf.size : Int) ≤ (sb.size : Int) := by omega
        have hhi2 : (sb.size : Int) ≤ (al.size : Int) := by omega
        have hhd : ((sb.extract 0 sf.size).toList == sf.toList) = true := by rw [HK.out.head]; exact beq_self_eq_true _
        go_wp2_with fail
        refine HSF.out.mono ?_
        rintro e w11 ⟨rfl, rfl⟩
        clear hhd hlo2 hhi2
        by_cases hz : sb.size = sf.size
        · have hz2 : ((sb.size : Int) == (sf.size : Int)) = true := by rw [beq_iff_eq]; omega
          clear hz
          go_wp2_with fail
          go_quiet (fail)
          go_wp2
          go_ret
          exact ⟨rfl, HFF.out.drewN _⟩
        · have hz2 : ((sb.size : Int) == (sf.size : Int)) = false := by rw [beq_eq_false_iff_ne]; omega
          obtain ⟨j, hj⟩ : ∃ j, j + 1 = sb.size := ⟨sb.size - 1, by omega⟩
          have hjj : (sb.size : Int) - 1 = (j : Int) := by omega
          have hj2 : j < sb.size := by omega
          have hj3 : j < al.size := by omega
          have hcut : ((sb.extract 0 j).toList == (al.extract 0 j).toList) = true := by rw [HK.out.cut j hj (by omega)]; exact beq_self_eq_true _
          have hlast : bits .xor .u8 (sb[j].toNat : Int) (x.toNat : Int) = (al[j].toNat : Int) := by rw [u8_xor_val, HK.out.last j hj2 hj3 hj (by omega)]
          have hjw : IntKind.i64.wrap ((sb.size : Int) - 1) = (j : Int) := by rw [hjj]; exact IntWalk.i64_in _ (by omega)
          have hj4 : (j : Int) < (sb.size : Int) := by omega
          have hj5 : (j : Int) < (al.size : Int) := by omega
          have hj6 : (j : Int) ≤ (sb.size : Int) := by omega
          have hj7 : (j : Int) ≤ (al.size : Int) := by omega
          have hj8 : j ≤ sb.size := by omega
          have hj9 : j ≤ al.size := by omega
          clear hj hz
          go_wp2_with fail
          go_quiet (fail)
          go_wp2
          go_ret
          exact ⟨rfl, HFF.out.drewN _⟩
  · go_wp2
    go_ret
    exact ⟨rfl, HF.out⟩

theorem disk_keeps_row (w : World) (size : Int) (hsize : (Lit.int .i64 size).wf = true) (a : Option Addr) (cap : Nat) (cs : List DCall) (hm : cs.length ≤ 140737488351232) (hr : RdRow w a (callRow cs)) (keep : Int) (hkeep : (Lit.int .i64 keep).wf = true) (turn : Int) (hturn : (Lit.int .u8 turn).wf = true) :
    Calls Try.prog 4 #[.int .i64 size, .slice a cs.length cap, .int .i64 keep, .int .u8 turn] w fun e w' => e = .returned (.bool true) ∧ Below w.heap.size w w' := by
  have h := wf_u8 hturn
  have e : ((UInt8.ofNat turn.toNat).toNat : Int) = turn := by rw [UInt8.toNat_ofNat', Nat.mod_eq_of_lt (by omega), Int.toNat_of_nonneg h.1]
  rw [← e]
  exact disk_keeps_law size a cap cs keep (UInt8.ofNat turn.toNat) w hm hr

end Go.Proofs.Ythdhcllljmkamaa
