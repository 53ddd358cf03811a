/- The walk of WalDoes. -/
import Derived.Test.YthdhcllljmkamaaWalAgain
import Derived.Deep.CutBlock
import Derived.Deep.DeepCutAuto
namespace Go.Proofs.Ythdhcllljmkamaa
open Go.RowKit
set_option linter.unusedVariables false

/-- A call of the script, in its own block. -/
def cCells (c : DCall) : Array Value := #[Value.int IntKind.i64 c.kind, Value.string c.s, Value.int IntKind.i64 c.n, Value.int IntKind.u8 (c.turn.toNat : Int)]
def IsC (g : Nat) (c : DCall) : Asr := fun S w => Blk w g 60 (cCells c) ∧ ∀ k, S k ↔ k = g
theorem IsC.local (g : Nat) (c : DCall) : LocalA (IsC g c) := by
  refine ⟨?_, ?_⟩
  · rintro S w w' ⟨h1, h3⟩ hk
    exact ⟨h1.keep (hk g ((h3 g).2 rfl)), h3⟩
  · rintro S w k ⟨h1, h3⟩ hk
    rw [(h3 k).1 hk]
    exact h1.lt
theorem local_c (g : Nat) (c : DCall) : ∀ B ∈ [IsC g c], LocalA B := by
  intro B hB
  simp only [List.mem_cons, List.not_mem_nil, or_false] at hB
  subst hB
  exact IsC.local g c
theorem local_ldc (gl gd cnt : Nat) (st : DSt) (g : Nat) (c : DCall) : ∀ B ∈ [LD gl gd cnt st, IsC g c], LocalA B := by
  intro B hB
  simp only [List.mem_cons, List.not_mem_nil, or_false] at hB
  rcases hB with rfl | rfl
  · exact LD.local gl gd cnt st
  · exact IsC.local g c
theorem upd_nest {L : List Asr} {w wc : World} (hU : Upd (fun _ => False) (Sep L) w wc) : Upd (fun _ => False) (Sep [Sep L]) w wc := by
  obtain ⟨S, hS, hst, hsub⟩ := hU
  exact ⟨S, ⟨S, fun _ => False, hS, fun _ h => h, fun _ _ h => h, fun k => by simp⟩, hst, hsub⟩
theorem ldc_new {gl gd cnt : Nat} {st : DSt} {w wr : World} (hU : Upd (fun _ => False) (Sep [IsL gl gd cnt, IsD gd st]) w wr) (c : DCall) :
    Upd (fun _ => False) (Sep [LD gl gd cnt st, IsC wr.heap.size c]) w (wr.alloc (.cells (cCells c) 60)) :=
  (Upd.new (local_ld1 gl gd cnt st) (upd_nest hU) ((Fr.refl wr).alloc _) (fun k => k = wr.heap.size) ⟨Blk.new _ _ _, fun k => Iff.rfl⟩ (fun k hk => Nat.le_of_eq hk.symm)).swap
theorem ldc_keep {gl gd cnt g : Nat} {c : DCall} {st : DSt} {w wc w' : World} (hU : Upd (fun _ => False) (Sep [LD gl gd cnt st, IsC g c]) w wc) (hf : Fr wc w') : Upd (fun _ => False) (Sep [LD gl gd cnt st, IsC g c]) w w' := Upd.fresh (local_ldc gl gd cnt st g c) hU hf
theorem ldc_call {gl gd cnt g : Nat} {c : DCall} {st : DSt} {w wc : World} (hU : Upd (fun _ => False) (Sep [LD gl gd cnt st, IsC g c]) w wc) :
    ∃ S, Sep [IsL gl gd cnt, IsD gd st] S wc ∧ ∀ cnt' st' w', Upd S (Sep [IsL gl gd cnt', IsD gd st']) wc w' → Upd (fun _ => False) (Sep [LD gl gd cnt' st', IsC g c]) w w' := by
  obtain ⟨S, h1, k1⟩ := Upd.call (local_c g c) hU
  exact ⟨S, h1, fun cnt' st' w' h => k1 (LD gl gd cnt' st') w' h⟩
theorem ldc_cells {gl gd cnt g : Nat} {c : DCall} {st : DSt} {w wc : World} (hU : Upd (fun _ => False) (Sep [LD gl gd cnt st, IsC g c]) w wc) :
    wc.cell? ⟨g, 0, none⟩ = some (.int .i64 c.kind) ∧ wc.cell? ⟨g, 1, none⟩ = some (.string c.s) ∧ wc.cell? ⟨g, 2, none⟩ = some (.int .i64 c.n) ∧ wc.cell? ⟨g, 3, none⟩ = some (.int .u8 (c.turn.toNat : Int)) := by
  obtain ⟨S, hb, _⟩ := hU.swap.head
  exact ⟨hb.cell 0, hb.cell 1, hb.cell 2, hb.cell 3⟩
theorem ldc_drop {gl gd cnt g : Nat} {c : DCall} {st : DSt} {w wc : World} (hU : Upd (fun _ => False) (Sep [LD gl gd cnt st, IsC g c]) w wc) : Upd (fun _ => False) (Sep [IsL gl gd cnt, IsD gd st]) w wc :=
  (Upd.flat [IsL gl gd cnt, IsD gd st] (L := []) (hU.swap.drop))
/-- The old log is let go of, and the disk handed over to be opened. -/
theorem ldc_open {gl gd cnt g : Nat} {c : DCall} {st : DSt} {w wc : World} (hU : Upd (fun _ => False) (Sep [LD gl gd cnt st, IsC g c]) w wc) :
    ∃ S, IsD gd st S wc ∧ ∀ gl' n v l st' w', Upd S (Sep [IsL gl' gd n, IsRows v l, IsD gd st']) wc w' → Upd (fun _ => False) (Sep [IsL gl' gd n, IsRows v l, IsD gd st']) w w' := by
  exact open_step (drop_log (ldc_drop hU))
theorem d_left_n (g : Nat) (st : DSt) (S : Nat → Prop) (w : World) (hwf : st.wf) (h : IsD g st S w) :
    Calls Try.prog 19 #[.pointer (some ⟨g, 0, none⟩)] w fun e w' => e = .returned (.int .i64 ((st.size - st.all.length : Nat) : Int)) ∧ ∃ m, w.drewN m = w' := by
  rw [Int.ofNat_sub hwf.1]
  exact d_left_q g st S w hwf h
theorem wal_room_n (gl gd cnt : Nat) (st : DSt) (S : Nat → Prop) (w : World) (hwf : st.wf) (h : Sep [IsL gl gd cnt, IsD gd st] S w) :
    Calls Try.prog 38 #[.pointer (some ⟨gl, 0, none⟩)] w fun e w' => e = .returned (.int .i64 ((st.size - st.all.length : Nat) : Int)) ∧ ∃ m, w.drewN m = w' := by
  rw [Int.ofNat_sub hwf.1]
  exact wal_room_q gl gd cnt st S w hwf h

theorem lAdd_kinds (st : DSt) (s : ByteArray) (hd : st.down = false) (hwf : st.wf) :
    (decide (65535 < (s.size : Int)) = true ∧ (lAdd st s.data.toList).1 = 3 ∧ (lAdd st s.data.toList).2 = st) ∨
    (decide (65535 < (s.size : Int)) = false ∧ decide (((st.size - st.all.length : Nat) : Int) < (s.size : Int) + 6) = true ∧ (lAdd st s.data.toList).1 = 6 ∧ (lAdd st s.data.toList).2 = st) ∨
    (decide (65535 < (s.size : Int)) = false ∧ decide (((st.size - st.all.length : Nat) : Int) < (s.size : Int) + 6) = false ∧ (lAdd st s.data.toList).1 = 0 ∧
      (((lAdd st s.data.toList).2.size - (lAdd st s.data.toList).2.all.length : Nat) : Int) = ((st.size - st.all.length : Nat) : Int) - (s.size : Int) - 6) := by
  have h1 := hwf.1
  have hfl : (wFrame s.data.toList).length = s.size + 6 := by rw [wFrame_len, ba_len]
  unfold lAdd
  rw [if_neg (by rw [hd]; exact Bool.false_ne_true), ba_len]
  by_cases hl : 65535 < s.size
  · rw [if_pos hl]
    exact .inl ⟨decide_eq_true (show (65535 : Int) < (s.size : Int) by omega), rfl, rfl⟩
  · rw [if_neg hl]
    right
    have hd1 : decide (65535 < (s.size : Int)) = false := decide_eq_false (show ¬ (65535 : Int) < (s.size : Int) by omega)
    unfold dAppend
    rw [if_neg (by rw [hd]; exact Bool.false_ne_true)]
    by_cases hf : st.size < st.all.length + (wFrame s.data.toList).length
    · rw [if_pos hf]
      exact .inl ⟨hd1, decide_eq_true (by omega), rfl, rfl⟩
    · rw [if_neg hf]
      refine .inr ⟨hd1, decide_eq_false (by omega), rfl, ?_⟩
      have : ({ st with loose := st.loose ++ wFrame s.data.toList } : DSt).all.length = st.all.length + (s.size + 6) := by
        rw [← hfl]; simp [DSt.all]; omega
      simp only [this]
      omega

set_option maxHeartbeats 8000000 in
set_option maxRecDepth 100000 in
theorem wal_does_law (w : World) (size : Int) (hsize : (Lit.int .i64 size).wf = true) (a : Option Addr) (cap : Nat) (cs : List DCall) (hm : cs.length ≤ 3600000000000) (hr : RdRow w a (callRow cs)) :
    Calls Try.prog 11 #[.int .i64 size, .slice a cs.length cap] w fun e w' => e = .returned (.bool true) ∧ Below w.heap.size w w' := by
  clear hsize
  go_enter Try.func11, Try.ntmps11
  go_wp2_with fail
  refine (wal_alive _).mono ?_
  rintro e w1 ⟨rfl, hf⟩
  go_wp2_with fail
  refine (wal_great a cap cs _ hm (hr.fr hf)).mono ?_
  rintro e w2 ⟨r, rfl, hf2, hmod⟩
  have HF := Lib.hid (hf.trans hf2)
  have HM := Lib.hid hmod
  clear hf hf2 hmod
  cases r
  · have hmod := HM.out (by simp)
    have h40 := hmod.1
    have HM2 := Lib.hid hmod
    clear HM hmod
    go_wp2_with fail
    refine (d_new size _).mono ?_
    rintro e w3 ⟨rfl, hf, hd⟩
    have hU := Upd.back HF.out (Upd.new (L := []) (by simp) (Upd.start w2) hf _ hd (fun k hk => Nat.le_of_eq hk.symm))
    generalize w2.heap.size = gd at hU ⊢
    have HU := Lib.hid hU
    clear hf hd hU
    obtain ⟨S1, h1, k1⟩ := open_step HU.out
    have K1 := Lib.hid k1
    clear k1
    go_wp2_with fail
    refine (wal_open gd _ S1 _ (dNew_wf size) rfl h1).mono ?_
    rintro e w4 ⟨gl, v, rfl, hu⟩
    have hsc : wScan (dNew size).all = ([], 0) := wScan_nil
    rw [hsc, open_new] at hu
    obtain ⟨S0, hrx⟩ := ((K1.out _ _ _ _ _ _ hu).swap).head
    obtain ⟨aox, cx, rfl, _⟩ := hrx.read
    have HU1 := Lib.hid (drop_rows (K1.out _ _ _ _ _ _ hu))
    clear hu K1 h1 HU hsc hrx
    go_wp2_with fail
    go_loopw [6, 9, 48] (fun l n i wr => ∃ (k cnt gl : Nat) (st : DSt), k ≤ cs.length ∧ cnt ≤ 262144 + k ∧ l = .pointer (some ⟨gl, 0, none⟩) ∧ n = .int .i64 cnt ∧ i = .int .i64 k ∧ Hid (Upd (fun _ => False) (Sep [IsL gl gd cnt, IsD gd st]) w wr) ∧ Hid (st.down = false) ∧ Hid st.wf ∧ Hid (st.boots ≤ k + 1)) (fun _ _ i _ => (cs.length - intOf i).toNat)
    case atStart => exact ⟨0, 0, gl, dNew size, by omega, by omega, rfl, rfl, rfl, HU1.out, rfl, dNew_wf size, Nat.le_refl 1⟩
    case round =>
      obtain ⟨k, cnt, gl, st, hk, hcnt, rfl, rfl, rfl, hU, hdn, hwf, hbo⟩ := hrel
      by_cases hlt : k < cs.length
      · obtain ⟨b, o, rfl, x0, x1, x2, x3⟩ := rdCalls_at (hr.fr hU.out.fr) hlt
        have HR := Lib.hid hr
        have hsz := HM2.out.2 k hlt
        clear hr
        obtain ⟨c, hc⟩ : ∃ c, cs[k] = c := ⟨_, rfl⟩
        rw [hc] at x0 x1 x2 x3 hsz
        clear hc
        have hbo2 : st.boots ≤ 1000 := by have := hbo.out; omega
        have hJ := ldc_new hU.out c
        obtain ⟨S2, hS2, _⟩ := ldc_call hJ
        obtain ⟨_, S3, hd3, _⟩ := ld_parts hS2
        have HL := Lib.hid (d_left_n gd st S3 _ hwf.out hd3)
        have HJ := Lib.hid hJ
        clear hJ hS2 hd3
        go_wp2_with fail
        refine HL.out.mono ?_
        rintro e w5 ⟨rfl, nq, rfl⟩
        have HJ1 := Lib.hid (ldc_keep HJ.out ((Fr.refl _).drewN nq))
        clear HJ HL x0 x1 x2 x3 hU
        generalize wr.heap.size = gc at HJ1 ⊢
        generalize (wr.alloc (.cells (cCells c) 60)).drewN nq = w6 at HJ1 ⊢
        obtain ⟨x0, x1, x2, x3⟩ := ldc_cells HJ1.out
        go_upto_block 2 with fail
        go_cut [9] (fun n wx => ∃ (cnt' : Nat) (st' : DSt), n = .int .i64 cnt' ∧ cnt' ≤ 262144 + (k + 1) ∧ Hid (Upd (fun _ => False) (Sep [LD gl gd cnt' st', IsC gc c]) w wx) ∧ Hid (st'.down = false) ∧ Hid st'.wf ∧ Hid (st'.boots ≤ (k + 1) + 1))
        case first =>
          obtain ⟨S4, hS4, k4⟩ := ldc_call HJ1.out
          have K4 := Lib.hid k4
          clear k4
          rcases (show (c.kind < 0 ∨ 2 < c.kind) ∨ c.kind = 0 ∨ c.kind = 1 ∨ c.kind = 2 by omega) with hk0 | hk0 | hk0 | hk0
          · have e0 : (c.kind == 0) = false := by rw [beq_eq_false_iff_ne]; omega
            have e1 : (c.kind == 1) = false := by rw [beq_eq_false_iff_ne]; omega
            have e2 : (c.kind == 2) = false := by rw [beq_eq_false_iff_ne]; omega
            clear hk0
            go_wp2
            go_meet
            exact ⟨cnt, st, rfl, by omega, HJ1.out, hdn.out, hwf.out, Nat.le_succ_of_le hbo.out⟩
          · have e0 : (c.kind == 0) = true := by rw [beq_iff_eq]; exact hk0
            clear hk0
            have hadd := wal_add gl gd cnt st c.s S4 _ hwf.out (by omega) (by omega) hS4
            have HAD := Lib.hid hadd
            have HWF2 := Lib.hid (lAdd_wf hwf.out c.s.data.toList)
            have HDN2 : Hid ((lAdd st c.s.data.toList).2.down = false) := by show _ = _; rw [lAdd_down]; exact hdn.out
            have HBO2 : Hid ((lAdd st c.s.data.toList).2.boots ≤ (k + 1) + 1) := by show _ ≤ _; rw [lAdd_boots]; exact Nat.le_succ_of_le hbo.out
            have HK := Lib.hid (lAdd_kinds st c.s hdn.out hwf.out)
            have hsz2 : st.size - st.all.length ≤ 262144 := Nat.le_trans (Nat.sub_le _ _) hwf.out.2
            clear hadd hS4
            go_wp2_with fail
            refine HAD.out.mono ?_
            rintro e w7 ⟨rfl, hu⟩
            have HU2 := Lib.hid (K4.out _ _ _ hu)
            clear hu K4 HAD HJ1 x0 x1 x2 x3 hwf hdn hbo
            generalize hq : (lAdd st c.s.data.toList) = q at *
            obtain ⟨code, st2⟩ := q
            simp only at *
            clear hq
            obtain ⟨x0, x1, x2, x3⟩ := ldc_cells HU2.out
            obtain ⟨S5, hS5, _⟩ := ldc_call HU2.out
            obtain ⟨_, S6, hd6, _⟩ := ld_parts hS5
            have HSZ := Lib.hid (fun n => quiet_left (wal_size c.s (w7.drewN n) (by omega)))
            have HLF := Lib.hid (fun n => quiet_drawn (d_left_n gd st2 S6 (w7.drewN n) HWF2.out ((IsD.local gd st2).keep _ _ _ hd6 (fun k _ => rfl))))
            clear hS5 hd6
            rcases HK.out with ⟨h1, rfl, rfl⟩ | ⟨h1, h2, rfl, rfl⟩ | ⟨h1, h2, rfl, h3⟩
            · go_wp2_with fail
              go_quiet ((first | (go_at_call 39; exact HSZ.out _) | (go_at_call 19; exact HLF.out _)))
              go_wp2
              go_meet
              exact ⟨cnt, _, rfl, by omega, ldc_keep HU2.out ((Fr.refl _).drewN _), HDN2.out, HWF2.out, HBO2.out⟩
            · go_wp2_with fail
              go_quiet ((first | (go_at_call 39; exact HSZ.out _) | (go_at_call 19; exact HLF.out _)))
              go_wp2
              go_meet
              exact ⟨cnt, _, rfl, by omega, ldc_keep HU2.out ((Fr.refl _).drewN _), HDN2.out, HWF2.out, HBO2.out⟩
            · rw [h3] at HLF
              have k2 : IntKind.i64.wrap (((st.size - st.all.length : Nat) : Int) - (c.s.size : Int)) = ((st.size - st.all.length : Nat) : Int) - (c.s.size : Int) := IntWalk.i64_in _ (by omega)
              have k3 : IntKind.i64.wrap (((st.size - st.all.length : Nat) : Int) - (c.s.size : Int) - 6) = ((st.size - st.all.length : Nat) : Int) - (c.s.size : Int) - 6 := IntWalk.i64_in _ (by omega)
              go_wp2_with fail
              go_quiet ((first | (go_at_call 39; exact HSZ.out _) | (go_at_call 19; exact HLF.out _)))
              go_wp2
              go_meet
              exact ⟨cnt + 1, _, by go_num, by omega, ldc_keep HU2.out ((Fr.refl _).drewN _), HDN2.out, HWF2.out, HBO2.out⟩
          · have e0 : (c.kind == 0) = false := by rw [beq_eq_false_iff_ne]; omega
            have e1 : (c.kind == 1) = true := by rw [beq_iff_eq]; exact hk0
            clear hk0
            have HFO := Lib.hid (wal_force gl gd cnt st S4 _ hS4)
            have hds : dSync st = (0, { st with safe := st.all, loose := [] }) := by unfold dSync; rw [if_neg (by rw [hdn.out]; exact Bool.false_ne_true)]
            have HWF2 := Lib.hid (dSync_wf hwf.out)
            rw [hds] at HFO HWF2
            simp only at HFO HWF2
            have hrd2 : ({ st with safe := st.all, loose := [] } : DSt).all = st.all := by simp [DSt.all]
            have HDN2 : Hid (({ st with safe := st.all, loose := [] } : DSt).down = false) := hdn.out
            have HBO2 : Hid (({ st with safe := st.all, loose := [] } : DSt).boots ≤ (k + 1) + 1) := Nat.le_succ_of_le hbo.out
            obtain ⟨rs, hrs⟩ : ∃ rs : ByteArray, rs = ⟨st.all.toArray⟩ := ⟨_, rfl⟩
            have hrz : rs.size = ({ st with safe := st.all, loose := [] } : DSt).safe.length := by rw [hrs]; simp [ByteArray.size]
            rw [← hrd2] at hrs
            generalize ({ st with safe := st.all, loose := [] } : DSt) = st2 at *
            clear hS4 hds hrd2
            go_wp2_with fail
            refine HFO.out.mono ?_
            rintro e w7 ⟨rfl, hu⟩
            have HU2 := Lib.hid (K4.out _ _ _ hu)
            clear hu K4 HFO HJ1 x0 x1 x2 x3 hwf hdn hbo
            obtain ⟨S5, hS5, _⟩ := ldc_call HU2.out
            obtain ⟨_, S6, hd6, _⟩ := ld_parts hS5
            have hsf := d_safe gd st2 S6 w7 hd6
            have hrd := d_read_up gd st2 S6 w7 hd6 HDN2.out
            rw [← hrz] at hsf
            rw [← hrs] at hrd
            have HSF := Lib.hid hsf
            have HRD := Lib.hid hrd
            clear hS5 hd6 hsf hrd hrz hrs
            go_wp2_with fail
            refine HSF.out.mono ?_
            rintro e w8 ⟨rfl, rfl⟩
            go_wp2_with fail
            refine HRD.out.mono ?_
            rintro e w8 ⟨rfl, rfl⟩
            go_wp2
            go_meet
            exact ⟨cnt, _, rfl, by omega, HU2.out, HDN2.out, HWF2.out, HBO2.out⟩
          · have e0 : (c.kind == 0) = false := by rw [beq_eq_false_iff_ne]; omega
            have e1 : (c.kind == 1) = false := by rw [beq_eq_false_iff_ne]; omega
            have e2 : (c.kind == 2) = true := by rw [beq_iff_eq]; exact hk0
            clear hk0
            obtain ⟨_, S3, hd3, _, _, _, k3⟩ := ld_parts hS4
            have K3 := Lib.hid k3
            clear k3
            go_wp2_with fail
            refine (d_off gd st c.n c.turn S3 _ hwf.out hd3).mono ?_
            rintro e w7 ⟨rfl, hu⟩
            have HU2 := Lib.hid (K4.out _ _ _ (K3.out _ _ hu))
            clear hu K4 K3 hS4 hd3 HJ1 x0 x1 x2 x3
            have hdn2 : (dOff st c.n c.turn).down = true := by unfold dOff; rw [if_neg (by rw [hdn.out]; exact Bool.false_ne_true)]
            have hwf2 := dOff_wf hwf.out c.n c.turn
            have hbo3 : (dOff st c.n c.turn).boots = st.boots := dOff_boots _ _ _
            generalize dOff st c.n c.turn = st2 at *
            obtain ⟨S5, hS5, k5⟩ := ldc_call HU2.out
            obtain ⟨_, S6, hd6, _, _, _, k6⟩ := ld_parts hS5
            have HOP := Lib.hid (wal_open_down gd st2 S6 _ hdn2 hd6)
            have HAD := Lib.hid (wal_add gl gd cnt st2 ⟨#[]⟩ S5 _ hwf2 (by omega) (by decide) hS5)
            have hla : lAdd st2 (ByteArray.mk #[]).data.toList = (7, st2) := by unfold lAdd; rw [if_pos hdn2]
            have hls : dSync st2 = (7, st2) := by unfold dSync; rw [if_pos hdn2]
            rw [hla] at HAD
            have K5 := Lib.hid k5
            clear k5 k6 hd6 hS5 hla
            go_wp2_with fail
            refine HOP.out.mono ?_
            rintro e w8 ⟨rfl, rfl⟩
            go_wp2_with fail
            refine HAD.out.mono ?_
            rintro e w8 ⟨rfl, hu⟩
            have HU3 := Lib.hid (K5.out _ _ _ hu)
            clear hu K5 HOP HAD HU2
            obtain ⟨S5, hS5, k5⟩ := ldc_call HU3.out
            have hfo := wal_force gl gd _ st2 S5 _ hS5
            rw [hls] at hfo
            have HFO := Lib.hid hfo
            have K5 := Lib.hid k5
            clear k5 hS5 hfo hls
            go_wp2_with fail
            refine HFO.out.mono ?_
            rintro e w9 ⟨rfl, hu⟩
            have HU2 := Lib.hid (K5.out _ _ _ hu)
            clear hu K5 HFO HU3
            obtain ⟨S5, hS5, k5⟩ := ldc_call HU2.out
            obtain ⟨_, S6, hd6, _, _, _, k6⟩ := ld_parts hS5
            have HON := Lib.hid (d_on gd st2 S6 _ hwf2 (by omega) hd6)
            have K5 := Lib.hid k5
            have K6 := Lib.hid k6
            clear k5 k6 hS5 hd6
            go_wp2_with fail
            refine HON.out.mono ?_
            rintro e wx ⟨rfl, hu⟩
            have HU3 := Lib.hid (K5.out _ _ _ (K6.out _ _ hu))
            clear hu K5 K6 HON HU2
            go_wp2
            go_meet
            exact ⟨cnt, dOn st2, rfl, by omega, HU3.out, dOn_down _, dOn_wf hwf2, by have h1 := dOn_boots st2; have h2 := hbo.out; show _ ≤ _; omega⟩
        case rest =>
          obtain ⟨cnt', st', rfl, hcnt', HU2, hdn2, hwf2, hbo3⟩ := hcut
          clear HJ1 x0 x1 x2 x3 hdn hwf hbo hbo2 hcnt
          obtain ⟨x0, x1, x2, x3⟩ := ldc_cells HU2.out
          by_cases hk2 : c.kind = 2 ∨ c.kind = 3
          · have HKK : (c.kind == 2) = true ∨ ((c.kind == 2) = false ∧ (c.kind == 3) = true) := by
              rcases hk2 with h | h
              · exact .inl (by rw [beq_iff_eq]; exact h)
              · exact .inr ⟨by rw [beq_eq_false_iff_ne]; omega, by rw [beq_iff_eq]; exact h⟩
            clear hk2
            have hU3 := drop_log (ldc_drop HU2.out)
            have HU3 := Lib.hid hU3
            obtain ⟨S4, hd4⟩ := hU3.head
            obtain ⟨rs, hrs⟩ : ∃ rs : ByteArray, rs = ⟨st'.all.toArray⟩ := ⟨_, rfl⟩
            have hrl : rs.data.toList = st'.all := by rw [hrs]
            have hrz : rs.size = st'.all.length := by rw [← ba_len, hrl]
            have hrd := d_read_up gd st' S4 wc hd4 hdn2.out
            rw [← hrs] at hrd
            have HRD := Lib.hid hrd
            have hw1 := hwf2.out.1
            have hw2 := hwf2.out.2
            have HSC := Lib.hid (fun w => ref_scan rs w (by omega))
            rw [hrl] at HSC
            unfold ScanPost at HSC
            have hlen := scan_len st' hwf2.out
            have hq : (⟨(lOpen st').all.toArray⟩ : ByteArray).size = (wScan st'.all).2 := by
              show ((lOpen st').all.toArray).size = _
              rw [List.size_toArray, lOpen_all, List.length_take]
              have := (wScan_le st'.all.length st'.all (Nat.le_refl _)).1
              omega
            have HQ := Lib.hid hq
            have hw3 := lOpen_wf hwf2.out
            have hdn3 : (lOpen st').down = false := hdn2.out
            have hbo4 : Hid ((lOpen st').boots ≤ (k + 1) + 1) := hbo3.out
            clear hU3 hd4 hrs hrl hrz hrd hq hw1 hw2 HU2
            generalize hsr : (wScan st'.all) = rr at *
            obtain ⟨recs, rn⟩ := rr
            simp only at *
            have HSR := Lib.hid hsr
            clear hsr
            rcases HKK with e2 | ⟨e2, e3⟩
            all_goals
              go_wp2_with fail
              refine HRD.out.mono ?_
              rintro e w7 ⟨rfl, rfl⟩
              go_wp2_with fail
              refine (HSC.out _).mono ?_
              rintro e w7 ⟨vw, rfl, hown, hf⟩
              have hW := Upd.new (A := IsRows vw recs) (local1d gd st') HU3.out hf (fun k => some k = vw.ownBlock) ⟨row_base hown, fun k => Iff.rfl⟩ (fun k hk => (hown.lt k hk.symm).1)
              obtain ⟨aow, cw, rfl, _⟩ := own_rd hown
              clear hown
              obtain ⟨S5, hd5, k5⟩ := Upd.call (local_r _ _) hW.swap
              have hop := wal_open gd st' S5 w7 hwf2.out hdn2.out hd5
              unfold OpenPost at hop
              rw [HSR.out] at hop
              have HOP := Lib.hid hop
              have K5 := Lib.hid k5
              clear hW hd5 k5 hop
              go_wp2_with fail
              refine HOP.out.mono ?_
              rintro e w8 ⟨gl2, v2, rfl, hu⟩
              have HU4 := Lib.hid (Upd.flat [IsL gl2 gd recs.length, IsRows v2 recs, IsD gd (lOpen st')] (K5.out _ _ hu))
              clear hu K5 HOP HU3
              obtain ⟨S6, hrx⟩ := (HU4.out.swap).head
              obtain ⟨aox2, cx2, rfl, hrd2⟩ := hrx.read
              obtain ⟨S7, hrw⟩ := (HU4.out.perm (List.perm_middle (l₁ := [IsL gl2 gd recs.length, IsRows (.slice aox2 recs.length cx2) recs, IsD gd (lOpen st')]) (l₂ := []))).head
              obtain ⟨aow2, cw2, hwe, hrdw⟩ := hrw.read
              injection hwe with hw1 _ hw3'
              subst hw1
              subst hw3'
              have hsame := ref_same aox2 aow cx2 cw recs recs w8 (by omega) (by omega) hrd2 hrdw
              simp only [decide_true] at hsame
              have HS := Lib.hid hsame
              clear hsame hrd2 hrdw hrx hrw
              have hU5 := (HU4.out.perm (L' := [IsL gl2 gd recs.length, IsD gd (lOpen st'), IsRows (.slice aox2 recs.length cx2) recs, IsRows (.slice aow recs.length cw) recs]) (List.Perm.cons _ (List.Perm.swap _ _ _)))
              have HU5 := Lib.hid (((hU5.perm (L' := [IsRows (.slice aox2 recs.length cx2) recs, IsRows (.slice aow recs.length cw) recs, IsL gl2 gd recs.length, IsD gd (lOpen st')]) (List.perm_append_comm (l₁ := [IsL gl2 gd recs.length, IsD gd (lOpen st')]) (l₂ := [IsRows (.slice aox2 recs.length cx2) recs, IsRows (.slice aow recs.length cw) recs]))).drop).drop)
              clear HU4 hU5
              go_wp2_with fail
              refine HS.out.mono ?_
              rintro e w9 ⟨rfl, hf9⟩
              have HU6 := Lib.hid (keep_ld HU5.out hf9)
              clear hf9 HU5 HS hf
              obtain ⟨S8, hS8, _⟩ := HU6.out
              have HRM := Lib.hid (wal_room_n gl2 gd recs.length (lOpen st') S8 w9 hw3 hS8)
              have HLN := Lib.hid (fun n => wal_len gl2 gd recs.length (lOpen st') S8 (w9.drewN n) ((Sep.local _ (local_ld gl2 gd recs.length (lOpen st'))).keep _ _ _ hS8 (fun k _ => rfl)))
              obtain ⟨_, S9, hd9, _⟩ := ld_parts hS8
              have hrd9 := d_read_up gd (lOpen st') S9 w9 hd9 hdn3
              obtain ⟨r9, hr9⟩ : ∃ r9 : ByteArray, r9 = ⟨(lOpen st').all.toArray⟩ := ⟨_, rfl⟩
              have hq9 : r9.size = rn := by rw [hr9]; exact HQ.out
              rw [← hr9] at hrd9
              have HRD9 := Lib.hid hrd9
              have HLF := Lib.hid (fun n => d_left_n gd (lOpen st') S9 (w9.drewN n) hw3 ((IsD.local gd (lOpen st')).keep _ _ _ hd9 (fun k _ => rfl)))
              have HQ9 := Lib.hid hq9
              have HWF3 := Lib.hid hw3
              clear hS8 hd9 hrd9 hr9 hq9
              have hq9 : ((r9.size : Int) != (rn : Int)) = false := by rw [HQ9.out]; simp
              go_wp2_with fail
              refine HRD9.out.mono ?_
              rintro e w10 ⟨rfl, rfl⟩
              go_wp2_with fail
              refine HRM.out.mono ?_
              rintro e w10 ⟨rfl, m1, rfl⟩
              go_wp2_with fail
              refine (HLF.out m1).mono ?_
              rintro e w10 ⟨rfl, m2, rfl⟩
              go_wp2_with fail
              refine (HLN.out (m1 + m2)).mono ?_
              rintro e w10 ⟨rfl, rfl⟩
              go_wp2
              go_roundw
              case rel => exact ⟨k + 1, recs.length, gl2, lOpen st', by omega, by omega, rfl, rfl, by go_num, keep_ld HU6.out ((Fr.refl _).drewN _), hdn3, HWF3.out, hbo4.out⟩
              case measure => simp [intOf]; omega
          · have e2 : (c.kind == 2) = false := by rw [beq_eq_false_iff_ne]; omega
            have e3 : (c.kind == 3) = false := by rw [beq_eq_false_iff_ne]; omega
            obtain ⟨S4, hS4, k4⟩ := ldc_call HU2.out
            have HRM := Lib.hid (fun n => wal_room_n gl gd cnt' st' S4 (wc.drewN n) hwf2.out ((Sep.local _ (local_ld gl gd cnt' st')).keep _ _ _ hS4 (fun k _ => rfl)))
            have HLN := Lib.hid (fun n => wal_len gl gd cnt' st' S4 (wc.drewN n) ((Sep.local _ (local_ld gl gd cnt' st')).keep _ _ _ hS4 (fun k _ => rfl)))
            obtain ⟨_, S5, hd5, _⟩ := ld_parts hS4
            have HLF := Lib.hid (fun n => d_left_n gd st' S5 (wc.drewN n) hwf2.out ((IsD.local gd st').keep _ _ _ hd5 (fun k _ => rfl)))
            clear k4 hS4 hd5 hk2
            go_wp2_with fail
            refine (HRM.out 0).mono ?_
            rintro e w7 ⟨rfl, m1, rfl⟩
            go_wp2_with fail
            refine (HLF.out m1).mono ?_
            rintro e w7 ⟨rfl, m2, rfl⟩
            go_wp2_with fail
            refine (HLN.out (m1 + m2)).mono ?_
            rintro e w7 ⟨rfl, rfl⟩
            go_wp2
            go_roundw
            case rel => exact ⟨k + 1, cnt', gl, st', by omega, by omega, rfl, rfl, by go_num, ldc_drop (ldc_keep HU2.out ((Fr.refl _).drewN _)), hdn2.out, hwf2.out, hbo3.out⟩
            case measure => simp [intOf]; omega
      · have HFF := Lib.hid hU.out.fr
        clear hU hwf hdn hbo
        go_wp2_with fail
        refine (wal_open_nil _).mono ?_
        rintro e w5 ⟨rfl, rfl⟩
        go_wp2_with fail
        refine (wal_nil _ _).1.mono ?_
        rintro e w5 ⟨rfl, rfl⟩
        go_wp2_with fail
        refine (wal_nil ⟨#[]⟩ _).2.1.mono ?_
        rintro e w5 ⟨rfl, rfl⟩
        go_wp2_with fail
        refine (wal_nil ⟨#[]⟩ _).2.2.1.mono ?_
        rintro e w5 ⟨rfl, rfl⟩
        go_wp2_with fail
        refine (wal_nil ⟨#[]⟩ _).2.2.2.mono ?_
        rintro e w5 ⟨rfl, rfl⟩
        go_wp2
        go_ret
        exact ⟨rfl, HFF.out⟩
  · go_wp2
    go_ret
    exact ⟨rfl, HF.out⟩

end Go.Proofs.Ythdhcllljmkamaa
