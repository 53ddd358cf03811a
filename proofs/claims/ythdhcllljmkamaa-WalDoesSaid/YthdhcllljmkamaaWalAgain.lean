/- The walk of WalAgain. -/
import Derived.Test.YthdhcllljmkamaaWalRoom
namespace Go.Proofs.Ythdhcllljmkamaa
open Go.RowKit
set_option linter.unusedVariables false

theorem keep_all {L : List Asr} {w wc w' : World} (hL : ∀ B ∈ L, LocalA B) (hU : Upd (fun _ => False) (Sep L) w wc) (hf : Fr wc w') : Upd (fun _ => False) (Sep L) w w' := Upd.fresh hL hU hf
theorem local5 (gl gd m : Nat) (v : Value) (l : List (List UInt8)) (st : DSt) (ga n : Nat) (x : Value) (l' : List (List UInt8)) : ∀ B ∈ [IsL gl gd m, IsRows v l, IsD gd st, IsL ga gd n, IsRows x l'], LocalA B := by
  intro B hB
  simp only [List.mem_cons, List.not_mem_nil, or_false] at hB
  rcases hB with rfl | rfl | rfl | rfl | rfl
  · exact IsL.local gl gd m
  · exact IsRows.local v l
  · exact IsD.local gd st
  · exact IsL.local ga gd n
  · exact IsRows.local x l'
/-- What a call of a script makes of the disk, when nobody looks at the answers. -/
def gPlay (st : DSt) (c : DCall) : DSt := if c.kind = 0 then (lAdd st c.s.data.toList).2 else if c.kind = 1 then (dSync st).2 else if c.kind = 2 then dOn (dOff st c.n c.turn) else st
theorem gPlay_wf {st : DSt} (h : st.wf) (c : DCall) : (gPlay st c).wf := by
  unfold gPlay
  split
  · exact lAdd_wf h _
  split
  · exact dSync_wf h
  split
  · exact dOn_wf (dOff_wf h _ _)
  · exact h
theorem gPlay_down {st : DSt} (h : st.down = false) (c : DCall) : (gPlay st c).down = false := by
  unfold gPlay
  split
  · rw [lAdd_down]; exact h
  split
  · rw [dSync_down]; exact h
  split
  · exact dOn_down _
  · exact h
theorem gPlay_boots (st : DSt) (c : DCall) : (gPlay st c).boots ≤ st.boots + 1 := by
  unfold gPlay
  split
  · rw [lAdd_boots]; omega
  split
  · rw [dSync_boots]; omega
  split
  · have := dOn_boots (dOff st c.n c.turn); rw [dOff_boots] at this; exact this
  · omega

set_option maxHeartbeats 8000000 in
set_option maxRecDepth 100000 in
theorem wal_again_law (w : World) (size : Int) (hsize : (Lit.int .i64 size).wf = true) (a : Option Addr) (cap : Nat) (cs : List DCall) (hm : cs.length ≤ 3600000000000) (hr : RdRow w a (callRow cs)) :
    Calls Try.prog 10 #[.int .i64 size, .slice a cs.length cap] w fun e w' => e = .returned (.bool true) ∧ Below w.heap.size w w' := by
  clear hsize
  go_enter Try.func10, Try.ntmps10
  go_wp2_with fail
  refine (wal_alive _).mono ?_
  rintro e w1 ⟨rfl, hf⟩
  go_wp2_with fail
  refine (wal_great a cap cs _ hm (hr.fr hf)).mono ?_
  rintro e w2 ⟨r, rfl, hf2, hmod⟩
  have HF := Lib.hid (hf.trans hf2)
  have HM := Lib.hid hmod
  clear hf hf2 hmod
  cases r
  · have hmod := HM.out (by simp)
    have h40 := hmod.1
    have HM2 := Lib.hid hmod
    clear HM hmod
    go_wp2_with fail
    refine (d_new size _).mono ?_
    rintro e w3 ⟨rfl, hf, hd⟩
    have hU := Upd.back HF.out (Upd.new (L := []) (by simp) (Upd.start w2) hf _ hd (fun k hk => Nat.le_of_eq hk.symm))
    generalize w2.heap.size = gd at hU ⊢
    have HU := Lib.hid hU
    clear hf hd hU
    obtain ⟨S1, h1, k1⟩ := open_step HU.out
    have K1 := Lib.hid k1
    clear k1
    go_wp2_with fail
    refine (wal_open gd _ S1 _ (dNew_wf size) rfl h1).mono ?_
    rintro e w4 ⟨gl, v, rfl, hu⟩
    have hsc : wScan (dNew size).all = ([], 0) := wScan_nil
    rw [hsc, open_new] at hu
    have HU1 := Lib.hid (drop_rows (K1.out _ _ _ _ _ _ hu))
    clear hu K1 h1 HU hsc
    go_wp2_with fail
    go_loopw [32] (fun i wr => ∃ (k cnt : Nat) (st : DSt), k ≤ cs.length ∧ cnt ≤ k ∧ i = .int .i64 k ∧ Hid (Upd (fun _ => False) (Sep [IsL gl gd cnt, IsD gd st]) w wr) ∧ Hid (st.down = false) ∧ Hid st.wf ∧ Hid (st.boots ≤ k + 1)) (fun i _ => (cs.length - intOf i).toNat)
    case atStart => exact ⟨0, 0, dNew size, by omega, by omega, rfl, HU1.out, rfl, dNew_wf size, Nat.le_refl 1⟩
    case round =>
      obtain ⟨k, cnt, st, hk, hcnt, rfl, hU, hdn, hwf, hbo⟩ := hrel
      by_cases hlt : k < cs.length
      · obtain ⟨b, o, rfl, x0, x1, x2, x3⟩ := rdCalls_at (hr.fr hU.out.fr) hlt
        have HR := Lib.hid hr
        have hsz := HM2.out.2 k hlt
        clear hr
        obtain ⟨c, hc⟩ : ∃ c, cs[k] = c := ⟨_, rfl⟩
        rw [hc] at x0 x1 x2 x3 hsz
        clear hc
        have hbo2 : st.boots ≤ 1000 := by have := hbo.out; omega
        have HWF2 := Lib.hid (gPlay_wf hwf.out c)
        have HDN2 := Lib.hid (gPlay_down hdn.out c)
        have HBO2 : Hid ((gPlay st c).boots ≤ (k + 1) + 1) := by have h1 := gPlay_boots st c; have h2 := hbo.out; show _ ≤ _; omega
        have HBX := Lib.hid (keep_ld hU.out ((Fr.refl wr).alloc (Obj.cells #[Value.int IntKind.i64 c.kind, Value.string c.s, Value.int IntKind.i64 c.n, Value.int IntKind.u8 (c.turn.toNat : Int)] 60)))
        obtain ⟨S2, hS2, k2⟩ := sep_call HBX.out
        have K2 := Lib.hid k2
        clear k2
        rcases (show (c.kind < 0 ∨ 2 < c.kind) ∨ c.kind = 0 ∨ c.kind = 1 ∨ c.kind = 2 by omega) with hk0 | hk0 | hk0 | hk0
        · have e0 : (c.kind == 0) = false := by rw [beq_eq_false_iff_ne]; omega
          have e1 : (c.kind == 1) = false := by rw [beq_eq_false_iff_ne]; omega
          have e2 : (c.kind == 2) = false := by rw [beq_eq_false_iff_ne]; omega
          clear hk0
          go_wp2
          go_roundw
          case rel => exact ⟨k + 1, cnt, st, by omega, by omega, by go_num, HBX.out, hdn.out, hwf.out, Nat.le_succ_of_le hbo.out⟩
          case measure => simp [intOf]; omega
        · have hp : gPlay st c = (lAdd st c.s.data.toList).2 := by unfold gPlay; rw [if_pos hk0]
          rw [hp] at HWF2 HDN2 HBO2
          have e0 : (c.kind == 0) = true := by rw [beq_iff_eq]; exact hk0
          clear hp hk0
          go_wp2_with fail
          refine (wal_add gl gd cnt st c.s S2 _ hwf.out (by omega) (by omega) hS2).mono ?_
          rintro e w5 ⟨rfl, hu⟩
          have HU2 := Lib.hid (K2.out _ _ hu)
          have hcc : (if (lAdd st c.s.data.toList).1 = 0 then cnt + 1 else cnt) ≤ k + 1 := by split <;> omega
          have HCC := Lib.hid hcc
          clear hu K2 hS2 hcc
          go_wp2
          go_roundw
          case rel => exact ⟨k + 1, _, _, by omega, HCC.out, by go_num, HU2.out, HDN2.out, HWF2.out, HBO2.out⟩
          case measure => simp [intOf]; omega
        · have hp : gPlay st c = (dSync st).2 := by unfold gPlay; rw [if_neg (by omega), if_pos hk0]
          rw [hp] at HWF2 HDN2 HBO2
          have e0 : (c.kind == 0) = false := by rw [beq_eq_false_iff_ne]; omega
          have e1 : (c.kind == 1) = true := by rw [beq_iff_eq]; exact hk0
          clear hp hk0
          go_wp2_with fail
          refine (wal_force gl gd cnt st S2 _ hS2).mono ?_
          rintro e w5 ⟨rfl, hu⟩
          have HU2 := Lib.hid (K2.out _ _ hu)
          clear hu K2 hS2
          go_wp2
          go_roundw
          case rel => exact ⟨k + 1, cnt, _, by omega, by omega, by go_num, HU2.out, HDN2.out, HWF2.out, HBO2.out⟩
          case measure => simp [intOf]; omega
        · have hp : gPlay st c = dOn (dOff st c.n c.turn) := by unfold gPlay; rw [if_neg (by omega), if_neg (by omega), if_pos hk0]
          rw [hp] at HWF2 HDN2 HBO2
          have e0 : (c.kind == 0) = false := by rw [beq_eq_false_iff_ne]; omega
          have e1 : (c.kind == 1) = false := by rw [beq_eq_false_iff_ne]; omega
          have e2 : (c.kind == 2) = true := by rw [beq_iff_eq]; exact hk0
          clear hp hk0
          obtain ⟨_, S3, hd3, _, _, _, k3⟩ := ld_parts hS2
          have K3 := Lib.hid k3
          clear k3
          go_wp2_with fail
          refine (d_off gd st c.n c.turn S3 _ hwf.out hd3).mono ?_
          rintro e w5 ⟨rfl, hu⟩
          have HU2 := Lib.hid (K2.out _ _ (K3.out _ _ hu))
          clear hu K2 K3 hS2 hd3
          obtain ⟨S4, hS4, k4⟩ := sep_call HU2.out
          have K4 := Lib.hid k4
          obtain ⟨_, S5, hd5, _, _, _, k5⟩ := ld_parts hS4
          have K5 := Lib.hid k5
          clear k4 k5 hS4
          go_wp2_with fail
          refine (d_on gd _ S5 _ (dOff_wf hwf.out _ _) (by rw [dOff_boots]; omega) hd5).mono ?_
          rintro e w6 ⟨rfl, hu⟩
          have HU3 := Lib.hid (K4.out _ _ (K5.out _ _ hu))
          clear hu K4 K5 hd5 HU2
          go_wp2
          go_roundw
          case rel => exact ⟨k + 1, cnt, _, by omega, by omega, by go_num, HU3.out, HDN2.out, HWF2.out, HBO2.out⟩
          case measure => simp [intOf]; omega
      · obtain rfl : k = cs.length := by omega
        clear hlt
        have HU2 := Lib.hid (drop_log hU.out)
        obtain ⟨hag1, hag2⟩ := lOpen_again st
        have hwf1 := lOpen_wf hwf.out
        have hlen := scan_len st hwf.out
        obtain ⟨S1, h1, k1⟩ := open_step HU2.out
        have K1 := Lib.hid k1
        clear k1
        go_wp2_with fail
        refine (wal_open gd st S1 _ hwf.out hdn.out h1).mono ?_
        rintro e w5 ⟨ga, x, rfl, hu⟩
        have HU3 := Lib.hid (K1.out _ _ _ _ _ _ hu)
        clear hu K1 h1 HU2 hU
        have hag3 : (wScan (lOpen st).all).1 = (wScan st.all).1 := by rw [hag1]
        generalize (wScan st.all).1 = recs at *
        have hdn1 : (lOpen st).down = false := hdn.out
        have hdn2 : (lOpen (lOpen st)).down = false := hdn.out
        have hwf2 := lOpen_wf hwf1
        generalize lOpen st = st1 at *
        obtain ⟨S2, h2, k2⟩ := open_again HU3.out
        have K2 := Lib.hid k2
        have hread := d_read_up gd st1 S2 _ h2 hdn1
        have HRD := Lib.hid hread
        have H2 := Lib.hid h2
        clear k2 hread h2
        obtain ⟨S9, hrx⟩ := (HU3.out.swap).head
        obtain ⟨aox, cx, rfl, _⟩ := hrx.read
        clear hrx
        go_wp2_with fail
        refine HRD.out.mono ?_
        rintro e w6 ⟨rfl, rfl⟩
        go_wp2_with fail
        refine (wal_open gd st1 S2 _ hwf1 hdn1 H2.out).mono ?_
        rintro e w6 ⟨gb, y, rfl, hu⟩
        rw [hag3] at hu
        have HU4 := Lib.hid (K2.out _ _ _ _ _ _ hu)
        clear hu K2 H2 HU3 HRD hag1 hag3
        obtain ⟨S8, hry⟩ := (HU4.out.swap).head
        obtain ⟨aoy, cy, rfl, hrdy⟩ := hry.read
        have h5 := (HU4.out.perm (List.perm_middle (l₁ := [IsL gb gd recs.length, IsRows (.slice aoy recs.length cy) recs, IsD gd (lOpen st1), IsL ga gd recs.length]) (l₂ := []))).head
        obtain ⟨S7, hrx⟩ := h5
        obtain ⟨aox', cx', hxe, hrdx⟩ := hrx.read
        injection hxe with hx1 _ hx3
        subst hx1
        subst hx3
        have hsame := ref_same aox aoy cx cy recs recs w6 (by omega) (by omega) hrdx hrdy
        simp only [decide_true] at hsame
        have HS := Lib.hid hsame
        clear hsame hrdx hrdy hrx hry
        go_wp2_with fail
        refine HS.out.mono ?_
        rintro e w7 ⟨rfl, hf⟩
        have HU5 := Lib.hid (keep_all (local5 _ _ _ _ _ _ _ _ _ _) HU4.out hf)
        clear hf HS HU4
        obtain ⟨S6, hd⟩ := (HU5.out.third).head
        have hread := d_read_up gd (lOpen st1) S6 _ hd hdn2
        rw [hag2] at hread
        have HRD := Lib.hid hread
        obtain ⟨S5, ha⟩ := upd_two ((HU5.out.third).perm (List.perm_middle (l₁ := [IsD gd (lOpen st1), IsL gb gd recs.length, IsRows (.slice aoy recs.length cy) recs]) (l₂ := [IsRows (.slice aox recs.length cx) recs])))
        obtain ⟨S4, hb⟩ := upd_two (HU5.out.perm (L' := [IsL gb gd recs.length, IsD gd (lOpen st1), IsRows (.slice aoy recs.length cy) recs, IsL ga gd recs.length, IsRows (.slice aox recs.length cx) recs]) (List.Perm.cons _ (List.Perm.swap _ _ _)))
        have HLA := Lib.hid (wal_len ga gd _ _ S5 _ ha)
        have HLB := Lib.hid (wal_len gb gd _ _ S4 _ hb)
        have HRA := Lib.hid (wal_room_q ga gd _ _ S5 _ hwf2 ha)
        have HRB := Lib.hid (fun m => wal_room_q gb gd _ _ S4 (w7.drewN m) hwf2 ((Sep.local _ (local_ld gb gd recs.length (lOpen st1))).keep _ _ _ hb (fun k _ => rfl)))
        have HFF := Lib.hid HU5.out.fr
        clear hread hd ha hb HU5
        go_wp2_with fail
        refine HRD.out.mono ?_
        rintro e w8 ⟨rfl, rfl⟩
        go_wp2_with fail
        refine HLA.out.mono ?_
        rintro e w8 ⟨rfl, rfl⟩
        go_wp2_with fail
        refine HLB.out.mono ?_
        rintro e w8 ⟨rfl, rfl⟩
        go_wp2_with fail
        refine HRA.out.mono ?_
        rintro e w8 ⟨rfl, m1, rfl⟩
        go_wp2_with fail
        refine (HRB.out m1).mono ?_
        rintro e w8 ⟨rfl, m2, rfl⟩
        go_wp2
        go_ret
        exact ⟨rfl, by first | exact HFF.out.drewN _ | exact (HFF.out.drewN _).drewN _⟩
  · go_wp2
    go_ret
    exact ⟨rfl, HF.out⟩

end Go.Proofs.Ythdhcllljmkamaa
