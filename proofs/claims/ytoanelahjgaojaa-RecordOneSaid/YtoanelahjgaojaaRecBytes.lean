/- The walk of record.Bytes. -/
import Derived.Test.YtoanelahjgaojaaRecW
namespace Go.Proofs.Ytoanelahjgaojaa
open Go.RowKit
set_option linter.unusedVariables false
set_option maxRecDepth 100000

def encW (x : PWrite) : List UInt8 := encS x.key.data.toList ++ encS x.val.data.toList ++ encB x.del
def encH (x : PHold) : List UInt8 := encS x.key.data.toList ++ encI x.mode
def headRec (x : PRec) : List UInt8 := encI x.kind ++ encIs [x.node, x.epoch, x.num] ++ encI (x.nodes.length : Int) ++ encIs x.nodes
def encWs (l : List PWrite) : List UInt8 := l.flatMap encW
def encHs (l : List PHold) : List UInt8 := l.flatMap encH
def partsRec (x : PRec) : List UInt8 := encI (x.writes.length : Int) ++ encWs x.writes ++ encI (x.holds.length : Int) ++ encHs x.holds ++ encS x.schema.data.toList
def encRec (x : PRec) : List UInt8 := headRec x ++ (if x.kind = 1 then partsRec x else [])
def BytesPost (x : PRec) (w : World) (e : Ending) (w' : World) : Prop := ∃ (t : ByteArray) (code : Int), e = .returned (.tuple #[.string t, .int .i64 code]) ∧ Fr w w' ∧
  ((x.good ∧ (encRec x).length ≤ 65535 ∧ code = 0 ∧ t = ⟨(encRec x).toArray⟩) ∨ (x.good ∧ 65535 < (encRec x).length ∧ code = 3 ∧ t = ⟨#[]⟩) ∨ (¬ x.good ∧ code = 1 ∧ t = ⟨#[]⟩))
theorem encWs_take (l : List PWrite) (k : Nat) (h : k < l.length) : encWs (l.take (k + 1)) = encWs (l.take k) ++ encW l[k] := by
  unfold encWs
  rw [List.take_succ_eq_append_getElem h, List.flatMap_append, List.flatMap_cons, List.flatMap_nil, List.append_nil]
theorem encHs_take (l : List PHold) (k : Nat) (h : k < l.length) : encHs (l.take (k + 1)) = encHs (l.take k) ++ encH l[k] := by
  unfold encHs
  rw [List.take_succ_eq_append_getElem h, List.flatMap_append, List.flatMap_cons, List.flatMap_nil, List.append_nil]
theorem encWs_le (l : List PWrite) (k : Nat) : (encWs (l.take k)).length ≤ (encWs l).length := by
  have : encWs l = encWs (l.take k) ++ encWs (l.drop k) := by unfold encWs; rw [← List.flatMap_append, List.take_append_drop]
  rw [this, List.length_append]
  omega
theorem encHs_le (l : List PHold) (k : Nat) : (encHs (l.take k)).length ≤ (encHs l).length := by
  have : encHs l = encHs (l.take k) ++ encHs (l.drop k) := by unfold encHs; rw [← List.flatMap_append, List.take_append_drop]
  rw [this, List.length_append]
  omega
theorem encS_le (s : ByteArray) : s.size ≤ (encS s.data.toList).length := by unfold encS; rw [List.length_append, ba_len]; omega
/-- Its bytes are no more than can be handled. -/
def PRec.small (x : PRec) : Prop := (headRec x).length ≤ 1000000000000 ∧ (encWs x.writes).length ≤ 1000000000000 ∧ (encHs x.holds).length ≤ 1000000000000 ∧ x.nodes.length ≤ 1000000000000 ∧ x.schema.size ≤ 1000000000000

set_option maxHeartbeats 4000000 in
theorem rec_bytes (x : PRec) (p : RecPl) (w : World) (hs : x.sized) (hb : x.small) (hr : RecAt w x p) :
    Calls Try.prog 14 #[.agg (recCells x p)] w (BytesPost x w) := by
  have HR := Lib.hid hr
  have HS := Lib.hid hs
  have HM := Lib.hid hb
  have HB := Lib.hid (Blk.new w 28 (recCells x p))
  have HF := Lib.hid ((Fr.refl w).alloc (.cells (recCells x p) 28))
  have HGD := Lib.hid (fun w' (hf : Fr w w') => rec_good x p w' hs (hr.fr hf))
  have l1 : x.nodes.length ≤ 1000000000000 := hb.2.2.2.1
  have l2 : x.writes.length ≤ 1000000000000000 := hs.2.2.2.2.2.2.2.1
  have l3 : x.holds.length ≤ 1000000000000000 := hs.2.2.2.2.2.2.2.2.1
  clear hs hr hb
  go_enter Try.func14, Try.ntmps14
  unfold recCells at HB HF HGD ⊢
  go_upto_region 1 with (fail)
  generalize w.heap.size = gx at HB ⊢
  generalize hw0 : w.alloc _ = w0 at HB HF ⊢
  clear hw0
  obtain ⟨c0, c1, c2, c3, c4, c5, c6, c7⟩ := rec_cells (x := x) (p := p) HB.out
  go_wp2_with fail
  refine (HGD.out _ HF.out).mono ?_
  rintro e w1 ⟨r, rfl, hf, hg⟩
  have HG := Lib.hid hg
  have HF1 := Lib.hid (HF.out.trans hf)
  have HB1 := Lib.hid (HB.out.fr hf)
  clear hg hf HF HB c0 c1 c2 c3 c4 c5 c6 c7 HGD
  cases r
  · go_wp2
    go_ret2
    exact ⟨⟨#[]⟩, 1, rfl, HF1.out, .inr (.inr ⟨fun g => Bool.noConfusion (HG.out.2 g), rfl, rfl⟩)⟩
  · have HGO := Lib.hid (HG.out.1 rfl)
    clear HG
    go_upto_region 4 with (fail)
    have HU := Lib.hid (show Upd NoS (IsW w1.heap.size []) w1 _ from ⟨_, isW_new w1, Step.of_fr ((Fr.refl w1).alloc _), fun k hk => .inr (Nat.le_of_eq hk.symm)⟩)
    generalize w1.heap.size = gw at HU ⊢
    generalize hw2 : w1.alloc _ = w2 at HU ⊢
    clear hw2
    have l4 : (headRec x).length ≤ 1000000000000 := HM.out.1
    unfold headRec at l4
    simp only [List.length_append] at l4
    obtain ⟨c0, c1, c2, c3, c4, c5, c6, c7⟩ := rec_cells (x := x) (p := p) (HB1.out.fr HU.out.fr)
    go_wp2_with fail
    refine (w_int1 x.kind HU.out HS.out.1 (by simp)).mono ?_
    rintro e w3 ⟨rfl, hu⟩
    have HU3 := Lib.hid hu
    clear hu HU c0 c1 c2 c3 c4 c5 c6 c7
    obtain ⟨c0, c1, c2, c3, c4, c5, c6, c7⟩ := rec_cells (x := x) (p := p) (HB1.out.fr HU3.out.fr)
    go_wp2_with fail
    refine (w_put _ _ x.node x.epoch x.num _ _ HU3.out HS.out.2.1 HS.out.2.2.1 HS.out.2.2.2.1 (by simp; omega)).mono ?_
    rintro e w4 ⟨rfl, hu⟩
    have HU4 := Lib.hid hu
    clear hu HU3 c0 c1 c2 c3 c4 c5 c6 c7
    obtain ⟨c0, c1, c2, c3, c4, c5, c6, c7⟩ := rec_cells (x := x) (p := p) (HB1.out.fr HU4.out.fr)
    go_wp2_with fail
    refine (w_int1 (x.nodes.length : Int) HU4.out ⟨by omega, by omega⟩ (by simp; omega)).mono ?_
    rintro e w5 ⟨rfl, hu⟩
    have HU5 := Lib.hid hu
    clear hu HU4 c0 c1 c2 c3 c4 c5 c6 c7
    obtain ⟨c0, c1, c2, c3, c4, c5, c6, c7⟩ := rec_cells (x := x) (p := p) (HB1.out.fr HU5.out.fr)
    go_wp2_with fail
    refine (w_ints p.an p.cn x.nodes HU5.out (HR.out.1.fr HF1.out) HS.out.2.2.2.2.1 (by simp; omega)).mono ?_
    rintro e w6 ⟨rfl, hu⟩
    have HU6 : Hid (Upd NoS (IsW gw (headRec x)) w1 w6) := by rw [List.nil_append] at hu; exact hu
    clear hu HU5 c0 c1 c2 c3 c4 c5 c6 c7
    obtain ⟨c0, c1, c2, c3, c4, c5, c6, c7⟩ := rec_cells (x := x) (p := p) (HB1.out.fr HU6.out.fr)
    go_upto_if 36 with (fail)
    go_cut [4] (fun s4 wx => s4 = .pointer (some ⟨gw, 0, none⟩) ∧ Hid (Upd NoS (IsW gw (encRec x)) w1 wx))
    case first =>
      by_cases hk : x.kind = 1
      · have e1 : (x.kind == 1) = true := by rw [beq_iff_eq]; exact hk
        have HE : Hid (encRec x = headRec x ++ (encI (x.writes.length : Int) ++ encWs x.writes ++ encI (x.holds.length : Int) ++ encHs x.holds ++ encS x.schema.data.toList)) := by show _ = _; unfold encRec; rw [if_pos hk]; rfl
        have m1 : (headRec x).length ≤ 1000000000000 := HM.out.1
        have m2 : (encWs x.writes).length ≤ 1000000000000 := HM.out.2.1
        have m3 : (encHs x.holds).length ≤ 1000000000000 := HM.out.2.2.1
        have m5 : x.schema.size ≤ 1000000000000 := HM.out.2.2.2.2
        have i2 : (encI (x.writes.length : Int)).length ≤ 10 := encI_len (by omega) (by omega)
        have i3 : (encI (x.holds.length : Int)).length ≤ 10 := encI_len (by omega) (by omega)
        clear hk l4
        go_wp2_with fail
        refine (w_int1 (x.writes.length : Int) HU6.out ⟨by omega, by omega⟩ (by omega)).mono ?_
        rintro e w7 ⟨rfl, hu⟩
        have HU7 := Lib.hid hu
        clear hu HU6 c0 c1 c2 c3 c4 c5 c6 c7
        obtain ⟨c0, c1, c2, c3, c4, c5, c6, c7⟩ := rec_cells (x := x) (p := p) (HB1.out.fr HU7.out.fr)
        go_wp2_with fail
        go_loopw [46] (fun i wr => ∃ k : Nat, k ≤ x.writes.length ∧ i = .int .i64 k ∧ Hid (Upd NoS (IsW gw (headRec x ++ encI (x.writes.length : Int) ++ encWs (x.writes.take k))) w1 wr)) (fun i _ => (x.writes.length - intOf i).toNat)
        case atStart => exact ⟨0, by omega, rfl, by show Upd _ _ _ _; rw [show encWs (x.writes.take 0) = [] from rfl, List.append_nil]; exact HU7.out⟩
        case round =>
          obtain ⟨k, hk, rfl, hU⟩ := hrel
          by_cases hlt : k < x.writes.length
          · obtain ⟨b, o, hb1, y0, y1, y2⟩ := rdWrite_at ((HR.out.2.1.fr HF1.out).fr hU.out.fr) hlt
            have HT := Lib.hid (encWs_take x.writes k hlt)
            have m6 := encWs_le x.writes (k + 1)
            rw [HT.out] at m6
            rw [hb1]
            clear hb1 c0 c1 c2 c3 c4 c5 c6 c7
            generalize hx : x.writes[k] = xk at *
            obtain ⟨wkey, wval, wdel⟩ := xk
            unfold encW at m6
            simp only [List.length_append] at m6 y0 y1 y2
            have m7 := encS_le wkey
            have m8 := encS_le wval
            have m9 : (encS wkey.data.toList ++ encS wval.data.toList).length ≤ 1000000000000 := by rw [List.length_append]; omega
            clear hx
            obtain ⟨S1, h1, hs1, k1⟩ := upd_call hU.out
            have HE1 := Lib.hid (Blk.new wr 75 #[.string wkey, .string wval, .bool wdel])
            have hga := h1.notIn
            have hA := Upd.refl (h1.alloc (.cells #[.string wkey, .string wval, .bool wdel] 75))
            have HN := Lib.hid (fun A' w' (h : Upd S1 A' (wr.alloc (.cells #[.string wkey, .string wval, .bool wdel] 75)) w') => new_upd hU.out h1 k1 h)
            have HA := Lib.hid hA
            clear hA k1 h1
            go_upto_region 13 with (fail)
            generalize wr.heap.size = ga at HE1 hga ⊢
            generalize hwa : wr.alloc _ = wa at HE1 HA HN ⊢
            clear hwa y0 y1 y2
            have y0 : wa.cell? ⟨ga, 0, none⟩ = some (.string wkey) := HE1.out.cell 0
            have y1 : wa.cell? ⟨ga, 1, none⟩ = some (.string wval) := HE1.out.cell 1
            go_wp2_with fail
            refine (w_str2 wkey wval HA.out (by simp only [List.length_append]; omega)).mono ?_
            rintro e wb ⟨rfl, hu⟩
            have HA2 := Lib.hid hu
            have HE2 := Lib.hid (HE1.out.upd hu hga)
            clear hu HA HE1 y0 y1
            have y2 : wb.cell? ⟨ga, 2, none⟩ = some (.bool wdel) := HE2.out.cell 2
            go_wp2_with fail
            refine (w_bool1 wdel HA2.out (by simp only [List.length_append]; omega)).mono ?_
            rintro e wc ⟨rfl, hu⟩
            have HU8 := Lib.hid (HN.out _ _ hu)
            clear hu HA2 HE2 HN y2
            go_wp2
            go_roundw
            case rel => exact ⟨k + 1, by omega, by go_num, by show Upd _ _ _ _; rw [HT.out]; unfold encW; simpa only [List.append_assoc] using HU8.out⟩
            case measure => simp [intOf]; omega
          · obtain rfl : k = x.writes.length := by omega
            rw [List.take_length] at hU
            clear hlt c0 c1 c2 c3 c4 c5 c6 c7 HU7
            obtain ⟨c0, c1, c2, c3, c4, c5, c6, c7⟩ := rec_cells (x := x) (p := p) (HB1.out.fr hU.out.fr)
            go_wp2_with fail
            refine (w_int1 (x.holds.length : Int) hU.out ⟨by omega, by omega⟩ (by simp only [List.length_append]; omega)).mono ?_
            rintro e w7 ⟨rfl, hu⟩
            have HU7 := Lib.hid hu
            clear hu hU c0 c1 c2 c3 c4 c5 c6 c7
            obtain ⟨c0, c1, c2, c3, c4, c5, c6, c7⟩ := rec_cells (x := x) (p := p) (HB1.out.fr HU7.out.fr)
            go_wp2_with fail
            go_loopw [72] (fun i wr => ∃ k : Nat, k ≤ x.holds.length ∧ i = .int .i64 k ∧ Hid (Upd NoS (IsW gw (headRec x ++ encI (x.writes.length : Int) ++ encWs x.writes ++ encI (x.holds.length : Int) ++ encHs (x.holds.take k))) w1 wr)) (fun i _ => (x.holds.length - intOf i).toNat)
            case atStart => exact ⟨0, by omega, rfl, by show Upd _ _ _ _; rw [show encHs (x.holds.take 0) = [] from rfl, List.append_nil]; exact HU7.out⟩
            case round =>
              obtain ⟨k, hk, rfl, hU⟩ := hrel
              by_cases hlt : k < x.holds.length
              · obtain ⟨b, o, hb1, y0, y1⟩ := rdHold_at ((HR.out.2.2.fr HF1.out).fr hU.out.fr) hlt
                have HT := Lib.hid (encHs_take x.holds k hlt)
                have m6 := encHs_le x.holds (k + 1)
                have hmode : in64 x.holds[k].mode := HS.out.2.2.2.2.2.1 _ (List.getElem_mem hlt)
                rw [HT.out] at m6
                rw [hb1]
                clear hb1 c0 c1 c2 c3 c4 c5 c6 c7
                generalize hx : x.holds[k] = xk at *
                obtain ⟨wkey, wmode⟩ := xk
                unfold encH at m6
                simp only [List.length_append] at m6 y0 y1 hmode
                have m7 := encS_le wkey
                have m9 : (encS wkey.data.toList).length ≤ 1000000000000 := by omega
                clear hx
                obtain ⟨S1, h1, hs1, k1⟩ := upd_call hU.out
                have HE1 := Lib.hid (Blk.new wr 77 #[.string wkey, .int .i64 wmode])
                have hga := h1.notIn
                have hA := Upd.refl (h1.alloc (.cells #[.string wkey, .int .i64 wmode] 77))
                have HN := Lib.hid (fun A' w' (h : Upd S1 A' (wr.alloc (.cells #[.string wkey, .int .i64 wmode] 77)) w') => new_upd hU.out h1 k1 h)
                have HA := Lib.hid hA
                clear hA k1 h1
                go_upto_region 20 with (fail)
                generalize wr.heap.size = ga at HE1 hga ⊢
                generalize hwa : wr.alloc _ = wa at HE1 HA HN ⊢
                clear hwa y0 y1
                have y0 : wa.cell? ⟨ga, 0, none⟩ = some (.string wkey) := HE1.out.cell 0
                go_wp2_with fail
                refine (w_str1 wkey HA.out (by simp only [List.length_append]; omega)).mono ?_
                rintro e wb ⟨rfl, hu⟩
                have HA2 := Lib.hid hu
                have HE2 := Lib.hid (HE1.out.upd hu hga)
                clear hu HA HE1 y0
                have y1 : wb.cell? ⟨ga, 1, none⟩ = some (.int .i64 wmode) := HE2.out.cell 1
                go_wp2_with fail
                refine (w_int1 wmode HA2.out hmode (by simp only [List.length_append]; omega)).mono ?_
                rintro e wc ⟨rfl, hu⟩
                have HU8 := Lib.hid (HN.out _ _ hu)
                clear hu HA2 HE2 HN y1
                go_wp2
                go_roundw
                case rel => exact ⟨k + 1, by omega, by go_num, by show Upd _ _ _ _; rw [HT.out]; unfold encH; simpa only [List.append_assoc] using HU8.out⟩
                case measure => simp [intOf]; omega
              · obtain rfl : k = x.holds.length := by omega
                rw [List.take_length] at hU
                clear hlt c0 c1 c2 c3 c4 c5 c6 c7 HU7
                obtain ⟨c0, c1, c2, c3, c4, c5, c6, c7⟩ := rec_cells (x := x) (p := p) (HB1.out.fr hU.out.fr)
                go_wp2_with fail
                refine (w_str1 x.schema hU.out (by simp only [List.length_append]; omega)).mono ?_
                rintro e w9 ⟨rfl, hu⟩
                have HU9 := Lib.hid hu
                clear hu hU
                go_wp2
                go_meet
                exact ⟨rfl, by rw [HE.out]; show Upd _ _ _ _; simpa only [List.append_assoc] using HU9.out⟩
      · have e1 : (x.kind == 1) = false := by rw [beq_eq_false_iff_ne]; exact hk
        have HE : Hid (encRec x = headRec x) := by show _ = _; unfold encRec; rw [if_neg hk, List.append_nil]
        clear hk
        go_wp2
        go_meet
        exact ⟨rfl, by rw [HE.out]; exact HU6.out⟩
    case rest =>
      obtain ⟨rfl, HU7⟩ := hcut
      obtain ⟨S1, h1, _, k1⟩ := upd_call HU7.out
      have HW := Lib.hid (writer_bytes gw _ S1 _ (IsWF.of h1))
      have K1 := Lib.hid k1
      clear h1 k1 c0 c1 c2 c3 c4 c5 c6 c7 HU6
      obtain ⟨t, ht⟩ : ∃ t : ByteArray, t = ⟨(encRec x).toArray⟩ := ⟨_, rfl⟩
      have htl : t.size = (encRec x).length := by rw [ht]; simp [ByteArray.size]
      rw [← ht] at HW
      have HT := Lib.hid ht
      have HTL := Lib.hid htl
      clear ht htl
      go_wp2_with fail
      refine HW.out.mono ?_
      rintro e w9 ⟨rfl, hu⟩
      have HF9 := Lib.hid (HF1.out.trans (K1.out _ _ hu).fr)
      clear hu K1 HW HU7
      by_cases h5 : t.size ≤ 65535
      · have d5 : decide (t.size ≤ 65535) = true := decide_eq_true h5
        have d6 : (t.size : Int) ≤ 65535 := by omega
        have HH : Hid ((encRec x).length ≤ 65535) := by rw [← HTL.out]; exact h5
        go_wp2
        all_goals
          go_ret2
          exact ⟨t, 0, rfl, HF9.out, .inl ⟨HGO.out, HH.out, rfl, HT.out⟩⟩
      · have d5 : decide (t.size ≤ 65535) = false := decide_eq_false h5
        have d6 : (65535 : Int) < (t.size : Int) := by omega
        have HH : Hid (65535 < (encRec x).length) := by rw [← HTL.out]; show _ < _; omega
        go_wp2
        all_goals
          go_ret2
          exact ⟨⟨#[]⟩, 3, rfl, HF9.out, .inr (.inl ⟨HGO.out, HH.out, rfl, rfl⟩)⟩

end Go.Proofs.Ytoanelahjgaojaa
