/- The walk of RecordOne. -/
import Derived.Test.YtoanelahjgaojaaRecOnePure
namespace Go.Proofs.Ytoanelahjgaojaa
open Go.RowKit
set_option linter.unusedVariables false
set_option maxRecDepth 100000

theorem alive_good : aliveRec.good := by
  refine ⟨.inr (.inr ⟨.inl rfl, ⟨rfl, rfl, rfl⟩, rfl⟩), fun i h => by simp [aliveRec] at h, fun h hh => by simp [aliveRec] at hh, fun h hh => by simp [aliveRec] at hh, by decide, by decide⟩
theorem alive_sized : aliveRec.sized := by
  refine ⟨⟨by decide, by decide⟩, ⟨by decide, by decide⟩, ⟨by decide, by decide⟩, ⟨by decide, by decide⟩, fun n hn => by simp [aliveRec] at hn, fun n hn => by simp [aliveRec] at hn, by decide, by decide, by decide, by decide, fun n hn => by simp [aliveRec] at hn, fun n hn => by simp [aliveRec] at hn⟩
theorem alive_modest : aliveRec.modest := ⟨by decide, by decide, by decide⟩
set_option maxHeartbeats 4000000 in
theorem rec_alive (w : World) : Calls Try.prog 12 #[] w fun e w' => e = .returned (.bool true) ∧ Fr w w' := by
  have hb := fun w => rec_bytes aliveRec ⟨none, 0, none, 0, none, 0⟩ w alive_sized (modest_small _ alive_sized alive_modest) ⟨.inl rfl, .inl rfl, .inl rfl⟩
  have HB := Lib.hid hb
  clear hb
  go_enter Try.func12, Try.ntmps12
  go_wp2_with fail
  refine (HB.out _).mono ?_
  rintro e w1 ⟨t, code, rfl, hf, hp⟩
  have h2 : code = 0 ∧ t = ⟨[4, 2, 4, 6, 0].toArray⟩ := by
    rw [enc_alive] at hp
    rcases hp with ⟨_, _, h1, h2⟩ | ⟨_, h1, _⟩ | ⟨h1, _⟩
    · exact ⟨h1, h2⟩
    · simp at h1
    · exact absurd alive_good h1
  obtain ⟨rfl, rfl⟩ := h2
  clear hp HB
  go_wp2
  go_ret
  exact ⟨rfl, hf⟩

set_option maxHeartbeats 8000000 in
theorem rec_one_law (x y : PRec) (p q : RecPl) (w : World) (hs : x.sized) (ht : y.sized) (hr : RecAt w x p) (hq : RecAt w y q) :
    Calls Try.prog 3 #[.agg (recCells x p), .agg (recCells y q)] w fun e w' => e = .returned (.bool true) ∧ Fr w w' := by
  have HS := Lib.hid hs
  have HT := Lib.hid ht
  have HR := Lib.hid hr
  have HQ := Lib.hid hq
  have HA := Lib.hid ((Blk.new w 28 (recCells x p)).fr ((Fr.refl _).alloc (.cells (recCells y q) 28)))
  have HB := Lib.hid (Blk.new (w.alloc (.cells (recCells x p) 28)) 28 (recCells y q))
  have hz : (w.alloc (.cells (recCells x p) 28)).heap.size = w.heap.size + 1 := by simp
  rw [hz] at HB
  have HF := Lib.hid (((Fr.refl w).alloc (.cells (recCells x p) 28)).alloc (.cells (recCells y q) 28))
  have HGX := Lib.hid (fun w' (hf : Fr w w') => rec_great x p w' hs (hr.fr hf))
  have HGY := Lib.hid (fun w' (hf : Fr w w') => rec_great y q w' ht (hq.fr hf))
  have HBX := Lib.hid (fun w' (hf : Fr w w') (hm : x.modest) => rec_bytes x p w' hs (modest_small x hs hm) (hr.fr hf))
  have HBY := Lib.hid (fun w' (hf : Fr w w') (hm : y.modest) => rec_bytes y q w' ht (modest_small y ht hm) (hq.fr hf))
  have HSM := Lib.hid (fun w' (hf : Fr w w') => rec_same x y p q w' hs ht (hr.fr hf) (hq.fr hf))
  clear hs ht hr hq hz
  go_enter Try.func3, Try.ntmps3
  unfold recCells at HA HB HF HGX HGY HBX HBY HSM ⊢
  go_upto_region 1 with (fail)
  generalize w.heap.size = ga at HA HB ⊢
  generalize hw0 : World.alloc (w.alloc _) _ = w0 at HA HB HF ⊢
  clear hw0
  go_wp2_with fail
  refine (rec_alive _).mono ?_
  rintro e w1 ⟨rfl, hf⟩
  have HF1 := Lib.hid (HF.out.trans hf)
  have HA1 := Lib.hid (HA.out.fr hf)
  have HB1 := Lib.hid (HB.out.fr hf)
  clear hf HF HA HB
  obtain ⟨a0, a1, a2, a3, a4, a5, a6, a7⟩ := rec_cells (x := x) (p := p) HA1.out
  go_wp2_with fail
  refine (HGX.out _ HF1.out).mono ?_
  rintro e w2 ⟨r, rfl, hf, hmx⟩
  have HF2 := Lib.hid (HF1.out.trans hf)
  have HA2 := Lib.hid (HA1.out.fr hf)
  have HB2 := Lib.hid (HB1.out.fr hf)
  have HMX := Lib.hid hmx
  clear hf HF1 HA1 HB1 a0 a1 a2 a3 a4 a5 a6 a7 HGX hmx
  cases r
  · obtain ⟨b0, b1, b2, b3, b4, b5, b6, b7⟩ := rec_cells (x := y) (p := q) HB2.out
    go_wp2_with fail
    refine (HGY.out _ HF2.out).mono ?_
    rintro e w3 ⟨r, rfl, hf, hmy⟩
    have HF3 := Lib.hid (HF2.out.trans hf)
    have HA3 := Lib.hid (HA2.out.fr hf)
    have HB3 := Lib.hid (HB2.out.fr hf)
    have HMY := Lib.hid hmy
    clear hf HF2 HA2 HB2 b0 b1 b2 b3 b4 b5 b6 b7 HGY hmy
    cases r
    · obtain ⟨a0, a1, a2, a3, a4, a5, a6, a7⟩ := rec_cells (x := x) (p := p) HA3.out
      go_wp2_with fail
      refine (HBX.out _ HF3.out (HMX.out (by simp))).mono ?_
      rintro e w4 ⟨t, c, rfl, hf, hpx⟩
      have HF4 := Lib.hid (HF3.out.trans hf)
      have HA4 := Lib.hid (HA3.out.fr hf)
      have HB4 := Lib.hid (HB3.out.fr hf)
      have HPX := Lib.hid hpx
      clear hf HF3 HA3 HB3 a0 a1 a2 a3 a4 a5 a6 a7 HBX hpx
      obtain ⟨b0, b1, b2, b3, b4, b5, b6, b7⟩ := rec_cells (x := y) (p := q) HB4.out
      go_wp2_with fail
      refine (HBY.out _ HF4.out (HMY.out (by simp))).mono ?_
      rintro e w5 ⟨t2, c2, rfl, hf, hpy⟩
      have HF5 := Lib.hid (HF4.out.trans hf)
      have HA5 := Lib.hid (HA4.out.fr hf)
      have HB5 := Lib.hid (HB4.out.fr hf)
      have HPY := Lib.hid hpy
      clear hf HF4 HA4 HB4 b0 b1 b2 b3 b4 b5 b6 b7 HBY hpy
      obtain ⟨a0, a1, a2, a3, a4, a5, a6, a7⟩ := rec_cells (x := x) (p := p) HA5.out
      obtain ⟨b0, b1, b2, b3, b4, b5, b6, b7⟩ := rec_cells (x := y) (p := q) HB5.out
      rcases HPX.out with ⟨gx, _, rfl, e1⟩ | ⟨_, _, rfl, _⟩ | ⟨_, rfl, _⟩
      · rcases HPY.out with ⟨gy, _, rfl, e2⟩ | ⟨_, _, rfl, _⟩ | ⟨_, rfl, _⟩
        · have HXY : Hid (t.toList = t2.toList ↔ x = y) := by
            show _ ↔ _
            rw [e1, e2, ByteArray.toList_eq, ByteArray.toList_eq]
            exact ⟨fun h => encRec_inj HS.out HT.out gx.1 gy.1 h, fun h => by rw [h]⟩
          clear e1 e2 gx gy HPX HPY
          go_wp2_with fail
          refine (HSM.out _ HF5.out).mono ?_
          rintro e w6 ⟨r, rfl, hf, hxy⟩
          have hrr : (t.toList == t2.toList) = r := by
            cases r
            · rw [beq_eq_false_iff_ne]; exact fun h => Bool.noConfusion (hxy.2 (HXY.out.1 h))
            · rw [beq_iff_eq]; exact HXY.out.2 (hxy.1 rfl)
          have HF6 := Lib.hid (HF5.out.trans hf)
          clear hf hxy HF5 HXY
          subst hrr
          go_wp2
          all_goals
            go_ret
            exact ⟨rfl, HF6.out⟩
        · go_wp2
          go_ret
          exact ⟨rfl, HF5.out⟩
        · go_wp2
          go_ret
          exact ⟨rfl, HF5.out⟩
      · go_wp2
        go_ret
        exact ⟨rfl, HF5.out⟩
      · go_wp2
        go_ret
        exact ⟨rfl, HF5.out⟩
    · go_wp2
      go_ret
      exact ⟨rfl, HF3.out⟩
  · go_wp2
    go_ret
    exact ⟨rfl, HF2.out⟩

end Go.Proofs.Ytoanelahjgaojaa
