/- The walk of DiskRoom. -/
import Derived.Test.YthdhcllljmkamaaDiskLaws
namespace Go.Proofs.Ythdhcllljmkamaa
open Go.RowKit
set_option linter.unusedVariables false

theorem dOn_down (st : DSt) : (dOn st).down = false := by
  unfold dOn
  split
  · rfl
  · rename_i h; simpa using h
theorem d_read_up (g : Nat) (st : DSt) (S : Nat → Prop) (w : World) (h : IsD g st S w) (hd : st.down = false) :
    Calls Try.prog 18 #[.pointer (some ⟨g, 0, none⟩)] w fun e w' => e = .returned (.string ⟨st.all.toArray⟩) ∧ w = w' := by
  have := d_read g st S w h
  rw [if_neg (by rw [hd]; exact Bool.false_ne_true)] at this
  exact this
theorem only_d {gd gm : Nat} {st st' : DSt} {w wc : World} (hU : Upd (fun _ => False) (Sep [IsD gd st, IsM gm st']) w wc) : Upd (fun _ => False) (Sep [IsD gd st]) w wc := hU.swap.drop
theorem keep1 {g : Nat} {st : DSt} {w wc w' : World} (hU : Upd (fun _ => False) (Sep [IsD g st]) w wc) (hf : Fr wc w') : Upd (fun _ => False) (Sep [IsD g st]) w w' := Upd.fresh (local1d g st) hU hf
theorem ba_mk_append (l : List UInt8) (s : ByteArray) : (⟨(l ++ s.data.toList).toArray⟩ : ByteArray) = ⟨l.toArray⟩ ++ s := ba_ext (by rw [ba_append])

set_option maxHeartbeats 2000000 in
set_option maxRecDepth 100000 in
theorem disk_room_law (size : Int) (a : Option Addr) (cap : Nat) (cs : List DCall) (s : ByteArray) (w : World) (hm : cs.length ≤ 140737488351232) (hs : s.size ≤ 140737488351232) (hr : RdRow w a (callRow cs)) :
    Calls Try.prog 3 #[.int .i64 size, .slice a cs.length cap, .string s] w fun e w' => e = .returned (.bool true) ∧ Fr w w' := by
  go_enter Try.func3, Try.ntmps3
  go_wp2_with fail
  refine (disk_alive _).mono ?_
  rintro e w1 ⟨rfl, hf⟩
  go_wp2_with fail
  refine (disk_great a cap cs _ hm (hr.fr hf)).mono ?_
  rintro e w2 ⟨r, rfl, hf2, hmod⟩
  have HF := Lib.hid (hf.trans hf2)
  have HM := Lib.hid hmod
  clear hf hf2 hmod
  cases r
  · by_cases h4 : s.size ≤ 4096
    · have h41 : decide (4096 < (s.size : Int)) = false := decide_eq_false (show ¬ (4096 : Int) < (s.size : Int) by omega)
      have hmod := HM.out rfl
      have h60 := hmod.1
      have HM2 := Lib.hid hmod
      clear HM hmod
      go_wp2_with fail
      refine (d_new size _).mono ?_
      rintro e w3 ⟨rfl, hf3, hd⟩
      go_wp2_with fail
      refine (m_new size _).mono ?_
      rintro e w4 ⟨rfl, hf4, hm4⟩
      have HU := Lib.hid (both_new HF.out hf3 hd hf4 hm4)
      generalize w2.heap.size = gd at HU ⊢
      generalize w3.heap.size = gm at HU ⊢
      clear hf3 hd hf4 hm4 HF
      go_wp2_with fail
      go_loopw [29] (fun i wr => ∃ k : Nat, k ≤ cs.length ∧ i = .int .i64 k ∧ Hid (Upd (fun _ => False) (Sep [IsD gd (dPlays (dNew size) (cs.take k)), IsM gm (dPlays (dNew size) (cs.take k))]) w wr)) (fun i _ => (cs.length - intOf i).toNat)
      case atStart => exact ⟨0, by omega, rfl, HU.out⟩
      case round =>
        obtain ⟨k, hk, rfl, hU⟩ := hrel
        have hwf := dPlays_wf (dNew_wf size) (cs.take k)
        have hbo := plays_boots size cs k h60
        by_cases hlt : k < cs.length
        · have hsz := HM2.out.2 k hlt
          have HPS := Lib.hid (dPlays_succ (dNew size) cs k hlt)
          obtain ⟨b, o, rfl, x0, x1, x2, x3⟩ := rdCalls_at (hr.fr hU.out.fr) hlt
          have HR := Lib.hid hr
          clear hr
          generalize dPlays (dNew size) (cs.take k) = st at *
          obtain ⟨c, hc⟩ : ∃ c, cs[k] = c := ⟨_, rfl⟩
          rw [hc] at x0 x1 x2 x3 hsz HPS
          clear hc
          go_wp2_with fail
          obtain ⟨S, hS, kS⟩ := sep_call (keep2 hU.out ((Fr.refl wr).alloc (Obj.cells #[Value.int IntKind.i64 c.kind, Value.string c.s, Value.int IntKind.i64 c.n, Value.int IntKind.u8 (c.turn.toNat : Int)] 30)))
          have KS := Lib.hid kS
          clear kS
          refine (disk_does gd gm st c S _ hwf hbo hsz hS).mono ?_
          rintro e w6 ⟨rfl, hu⟩
          have HU2 := Lib.hid (KS.out _ _ hu)
          clear KS hu hS x0 x1 x2 x3
          go_wp2
          go_roundw
          case rel => exact ⟨k + 1, by omega, by go_num, by rw [HPS.out]; exact HU2.out⟩
          case measure => simp [intOf]; omega
        · obtain rfl : k = cs.length := by omega
          have HU1 := Lib.hid (only_d hU.out)
          have HWF := Lib.hid hwf
          clear hU hwf hlt
          generalize dPlays (dNew size) (cs.take cs.length) = st at *
          go_wp2_with fail
          obtain ⟨S1, h1, k1⟩ := one_call HU1.out
          refine (d_on gd st S1 _ HWF.out hbo h1).mono ?_
          rintro e w5 ⟨rfl, hu⟩
          have HU2 := Lib.hid (k1 _ _ hu)
          have hdn := dOn_down st
          have hwf1 := dOn_wf HWF.out
          clear h1 k1 hu HU1 HWF hbo
          generalize dOn st = st1 at *
          obtain ⟨S1, h1, k1⟩ := one_call HU2.out
          have H1 := Lib.hid h1
          have K1 := Lib.hid k1
          have HDN := Lib.hid hdn
          have HWF := Lib.hid hwf1
          clear h1 k1 hdn hwf1
          go_wp2_with fail
          refine (d_read_up gd st1 S1 _ H1.out HDN.out).mono ?_
          rintro e w6 ⟨rfl, rfl⟩
          go_wp2_with fail
          refine (d_left gd st1 S1 _ HWF.out H1.out).mono ?_
          rintro e w6 ⟨rfl, hu⟩
          have HU3 := Lib.hid (K1.out _ _ hu)
          clear hu K1 H1 HU2
          obtain ⟨S1, h1, k1⟩ := one_call HU3.out
          have H1 := Lib.hid h1
          have K1 := Lib.hid k1
          clear h1 k1
          go_wp2_with fail
          refine (d_append gd st1 s S1 _ HWF.out hs H1.out).mono ?_
          rintro e w7 ⟨rfl, hu⟩
          have HU4 := Lib.hid (K1.out _ _ hu)
          clear hu K1 H1 HU3
          have hwf2 := HWF.out
          have hz1 : st1.all.length ≤ st1.size := hwf2.1
          have hz2 : st1.size ≤ 262144 := hwf2.2
          clear hwf2
          by_cases hfull : st1.size < st1.all.length + s.size
          · have hap : dAppend st1 s.data.toList = (6, st1) := by unfold dAppend; rw [if_neg (by rw [HDN.out]; exact Bool.false_ne_true), if_pos (by rw [ba_len]; exact hfull)]
            rw [hap] at HU4 ⊢
            clear hap
            obtain ⟨S1, h1, k1⟩ := one_call HU4.out
            have H1 := Lib.hid h1
            have K1 := Lib.hid k1
            have hd1 : decide ((st1.size : Int) - (st1.all.length : Int) < (s.size : Int)) = true := decide_eq_true (show (st1.size : Int) - (st1.all.length : Int) < (s.size : Int) by omega)
            clear h1 k1
            go_wp2_with fail
            refine (d_read_up gd st1 S1 _ H1.out HDN.out).mono ?_
            rintro e w8 ⟨rfl, rfl⟩
            go_wp2_with fail
            refine (d_left gd st1 S1 _ HWF.out H1.out).mono ?_
            rintro e w9 ⟨rfl, hu⟩
            have HU5 := Lib.hid (K1.out _ _ hu).fr
            clear hu K1 H1 HU4
            go_wp2
            go_ret
            exact ⟨rfl, HU5.out⟩
          · have hap : dAppend st1 s.data.toList = (0, { st1 with loose := st1.loose ++ s.data.toList }) := by unfold dAppend; rw [if_neg (by rw [HDN.out]; exact Bool.false_ne_true), if_neg (by rw [ba_len]; exact hfull)]
            have hwf3 := dAppend_wf HWF.out s.data.toList
            rw [hap] at HU4 hwf3 ⊢
            obtain ⟨st2, hst2⟩ : ∃ st2 : DSt, { st1 with loose := st1.loose ++ s.data.toList } = st2 := ⟨_, rfl⟩
            have hdn2 : st2.down = false := by rw [← hst2]; exact HDN.out
            have hall : st2.all = st1.all ++ s.data.toList := by rw [← hst2]; simp [DSt.all]
            have hsz2 : st2.size = st1.size := by rw [← hst2]
            rw [hst2] at HU4 hwf3 ⊢
            have hal2 : (⟨st2.all.toArray⟩ : ByteArray) = ⟨st1.all.toArray⟩ ++ s := by rw [hall, ba_mk_append]
            have hlen2 : (st2.all.length : Int) = (st1.all.length : Int) + (s.size : Int) := by rw [hall, List.length_append, ba_len]; omega
            obtain ⟨S1, h1, k1⟩ := one_call HU4.out
            have hread := d_read_up gd st2 S1 _ h1 hdn2
            have hleft := d_left gd st2 S1 _ hwf3 h1
            rw [hal2] at hread
            rw [hlen2, hsz2] at hleft
            have HRD := Lib.hid hread
            have HLF := Lib.hid hleft
            have K1 := Lib.hid k1
            have hd1 : decide ((st1.size : Int) - (st1.all.length : Int) < (s.size : Int)) = false := decide_eq_false (show ¬ (st1.size : Int) - (st1.all.length : Int) < (s.size : Int) by omega)
            have hba : (⟨st1.all.toArray⟩ : ByteArray).size + s.size ≤ 9223372036854775807 := by
              have : (⟨st1.all.toArray⟩ : ByteArray).size = st1.all.length := by show st1.all.toArray.size = _; rw [List.size_toArray]
              omega
            have hsub : (st1.size : Int) - ((st1.all.length : Int) + (s.size : Int)) = (st1.size : Int) - (st1.all.length : Int) - (s.size : Int) := by omega
            have HSUB := Lib.hid hsub
            clear h1 k1 hread hleft hap hwf3 hst2 hdn2 hall hsz2 hal2 hlen2 hsub
            generalize (⟨st1.all.toArray⟩ : ByteArray) = al at *
            go_wp2_with fail
            refine HRD.out.mono ?_
            rintro e w8 ⟨rfl, rfl⟩
            go_wp2_with fail
            refine HLF.out.mono ?_
            rintro e w9 ⟨rfl, hu⟩
            have HU5 := Lib.hid (K1.out _ _ hu).fr
            clear hu K1 HU4
            rw [HSUB.out]
            go_wp2
            go_ret
            exact ⟨rfl, HU5.out⟩
    · have h41 : decide (4096 < (s.size : Int)) = true := decide_eq_true (show (4096 : Int) < (s.size : Int) by omega)
      go_wp2
      go_ret
      exact ⟨rfl, HF.out⟩
  · go_wp2
    go_ret
    exact ⟨rfl, HF.out⟩
theorem disk_room_row (w : World) (size : Int) (hsize : (Lit.int .i64 size).wf = true) (a : Option Addr) (cap : Nat) (cs : List DCall) (hm : cs.length ≤ 140737488351232) (hr : RdRow w a (callRow cs)) (s : ByteArray) (hs : s.size ≤ 140737488351232) :
    Calls Try.prog 3 #[.int .i64 size, .slice a cs.length cap, .string s] w fun e w' => e = .returned (.bool true) ∧ Below w.heap.size w w' := disk_room_law size a cap cs s w hm hs hr

end Go.Proofs.Ythdhcllljmkamaa
