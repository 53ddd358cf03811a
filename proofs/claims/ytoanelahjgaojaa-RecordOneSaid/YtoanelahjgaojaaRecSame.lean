/- The walk of the reference's Same. -/
import Derived.Test.YtoanelahjgaojaaRecGreat
namespace Go.Proofs.Ytoanelahjgaojaa
open Go.RowKit
set_option linter.unusedVariables false
set_option linter.unusedSimpArgs false
set_option maxRecDepth 100000

def SamePost (x y : PRec) (w : World) (e : Ending) (w' : World) : Prop := ∃ r : Bool, e = .returned (.bool r) ∧ Fr w w' ∧ (r = true ↔ x = y)
theorem not_same {x y : PRec} (h : x ≠ y) : false = true ↔ x = y := ⟨fun h => Bool.noConfusion h, fun k => absurd k h⟩

/-- All but the rows is the same, and these are as long. -/
def SameHead (x y : PRec) : Prop := x.kind = y.kind ∧ x.node = y.node ∧ x.epoch = y.epoch ∧ x.num = y.num ∧ x.schema.toList = y.schema.toList ∧ (x.nodes.length : Int) = (y.nodes.length : Int) ∧ (x.writes.length : Int) = (y.writes.length : Int) ∧ (x.holds.length : Int) = (y.holds.length : Int)
instance (x y : PRec) : Decidable (SameHead x y) := by unfold SameHead; infer_instance

theorem take_step {α : Type} (a b : List α) (k : Nat) (h : k < a.length) (h2 : k < b.length) (ht : a.take k = b.take k) : (a[k] = b[k] → a.take (k + 1) = b.take (k + 1)) ∧ (a[k] ≠ b[k] → a ≠ b) :=
  ⟨fun e => by rw [List.take_succ_eq_append_getElem h, List.take_succ_eq_append_getElem h2, ht, e], fun hn e => by subst e; exact hn rfl⟩

theorem bytes_eq {a b : ByteArray} (h : (a.toList == b.toList) = true) : a = b := by
  rw [beq_iff_eq, ByteArray.toList_eq, ByteArray.toList_eq] at h
  exact ba_ext h
theorem all_same {x y : PRec} (h : SameHead x y) (h1 : x.nodes = y.nodes) (h2 : x.writes = y.writes) (h3 : x.holds = y.holds) : x = y := by
  obtain ⟨e1, e2, e3, e4, e5, _⟩ := h
  have e6 : x.schema = y.schema := bytes_eq (beq_iff_eq.2 e5)
  cases x
  cases y
  simp only at *
  subst e1 e2 e3 e4 e6 h1 h2 h3
  rfl

set_option maxHeartbeats 16000000 in
theorem rec_same (x y : PRec) (p q : RecPl) (w : World) (hs : x.sized) (ht : y.sized) (hr : RecAt w x p) (hq : RecAt w y q) :
    Calls Try.prog 15 #[.agg (recCells x p), .agg (recCells y q)] w (SamePost x y w) := by
  have HR := Lib.hid hr
  have HQ := Lib.hid hq
  have HA := Lib.hid ((Blk.new w 28 (recCells x p)).fr ((Fr.refl _).alloc (.cells (recCells y q) 28)))
  have HB := Lib.hid (Blk.new (w.alloc (.cells (recCells x p) 28)) 28 (recCells y q))
  have hz : (w.alloc (.cells (recCells x p) 28)).heap.size = w.heap.size + 1 := by simp
  rw [hz] at HB
  have HF := Lib.hid (((Fr.refl w).alloc (.cells (recCells x p) 28)).alloc (.cells (recCells y q) 28))
  have l1 : x.nodes.length ≤ 1000000000000000 := hs.2.2.2.2.2.2.1
  have l2 : x.writes.length ≤ 1000000000000000 := hs.2.2.2.2.2.2.2.1
  have l3 : x.holds.length ≤ 1000000000000000 := hs.2.2.2.2.2.2.2.2.1
  have m1 : y.nodes.length ≤ 1000000000000000 := ht.2.2.2.2.2.2.1
  have m2 : y.writes.length ≤ 1000000000000000 := ht.2.2.2.2.2.2.2.1
  have m3 : y.holds.length ≤ 1000000000000000 := ht.2.2.2.2.2.2.2.2.1
  clear hs hr ht hq hz
  go_enter Try.func15, Try.ntmps15
  unfold recCells at HA HB HF ⊢
  go_upto_region 1 with (fail)
  generalize w.heap.size = ga at HA HB ⊢
  generalize hw0 : World.alloc (w.alloc _) _ = w0 at HA HB HF ⊢
  clear hw0
  obtain ⟨a0, a1, a2, a3, a4, a5, a6, a7⟩ := rec_cells (x := x) (p := p) HA.out
  obtain ⟨b0, b1, b2, b3, b4, b5, b6, b7⟩ := rec_cells (x := y) (p := q) HB.out
  go_cut [53] (fun s wx => s = .bool (!decide (SameHead x y)) ∧ Hid (w0 = wx))
  case first =>
    cases e1 : (x.kind != y.kind)
    · cases e2 : (x.node == y.node)
      · go_wp2
        go_meet
        exact ⟨congrArg Value.bool (by simp only [bne_iff_ne, bne_eq_false_iff_eq, beq_iff_eq, beq_eq_false_iff_ne, ne_eq] at e1 e2; simp [SameHead, e1, e2]), rfl⟩
      · cases e3 : (x.epoch == y.epoch)
        · go_wp2
          go_meet
          exact ⟨congrArg Value.bool (by simp only [bne_iff_ne, bne_eq_false_iff_eq, beq_iff_eq, beq_eq_false_iff_ne, ne_eq] at e1 e2 e3; simp [SameHead, e1, e2, e3]), rfl⟩
        · cases e4 : (x.num == y.num)
          · go_wp2
            go_meet
            exact ⟨congrArg Value.bool (by simp only [bne_iff_ne, bne_eq_false_iff_eq, beq_iff_eq, beq_eq_false_iff_ne, ne_eq] at e1 e2 e3 e4; simp [SameHead, e1, e2, e3, e4]), rfl⟩
          · cases e5 : (x.schema.toList == y.schema.toList)
            · go_wp2
              go_meet
              exact ⟨congrArg Value.bool (by simp only [bne_iff_ne, bne_eq_false_iff_eq, beq_iff_eq, beq_eq_false_iff_ne, ne_eq] at e1 e2 e3 e4 e5; simp [SameHead, e1, e2, e3, e4, e5]), rfl⟩
            · cases e6 : ((x.nodes.length : Int) != (y.nodes.length : Int))
              · cases e7 : ((x.writes.length : Int) != (y.writes.length : Int))
                · cases e8 : ((x.holds.length : Int) != (y.holds.length : Int))
                  · go_wp2
                    go_meet
                    exact ⟨congrArg Value.bool (by simp only [bne_iff_ne, bne_eq_false_iff_eq, beq_iff_eq, beq_eq_false_iff_ne, ne_eq] at e1 e2 e3 e4 e5 e6 e7 e8; simp [SameHead, e1, e2, e3, e4, e5, e6, e7, e8]), rfl⟩
                  · go_wp2
                    go_meet
                    exact ⟨congrArg Value.bool (by simp only [bne_iff_ne, bne_eq_false_iff_eq, beq_iff_eq, beq_eq_false_iff_ne, ne_eq] at e1 e2 e3 e4 e5 e6 e7 e8; simp [SameHead, e1, e2, e3, e4, e5, e6, e7, e8]), rfl⟩
                · go_wp2
                  go_meet
                  exact ⟨congrArg Value.bool (by simp only [bne_iff_ne, bne_eq_false_iff_eq, beq_iff_eq, beq_eq_false_iff_ne, ne_eq] at e1 e2 e3 e4 e5 e6 e7; simp [SameHead, e1, e2, e3, e4, e5, e6, e7]), rfl⟩
              · go_wp2
                go_meet
                exact ⟨congrArg Value.bool (by simp only [bne_iff_ne, bne_eq_false_iff_eq, beq_iff_eq, beq_eq_false_iff_ne, ne_eq] at e1 e2 e3 e4 e5 e6; simp [SameHead, e1, e2, e3, e4, e5, e6]), rfl⟩
    · go_wp2
      go_meet
      exact ⟨congrArg Value.bool (by simp only [bne_iff_ne, bne_eq_false_iff_eq, beq_iff_eq, beq_eq_false_iff_ne, ne_eq] at e1; simp [SameHead, e1]), rfl⟩
  case rest =>
    obtain ⟨rfl, hw⟩ := hcut
    obtain rfl := hw.out
    clear hw
    cases hsh : decide (SameHead x y)
    · have HN := Lib.hid (not_same (fun e => of_decide_eq_false hsh (by rw [e]; exact ⟨rfl, rfl, rfl, rfl, rfl, rfl, rfl, rfl⟩)) : false = true ↔ x = y)
      clear hsh
      go_wp2
      go_ret
      exact ⟨false, rfl, HF.out, HN.out⟩
    · have HSH := Lib.hid (of_decide_eq_true hsh)
      clear hsh
      have hn1 : y.nodes.length = x.nodes.length := by have := HSH.out.2.2.2.2.2.1; omega
      have HN1 := Lib.hid hn1
      have hn2 : y.writes.length = x.writes.length := by have := HSH.out.2.2.2.2.2.2.1; omega
      have HN2 := Lib.hid hn2
      have hn3 : y.holds.length = x.holds.length := by have := HSH.out.2.2.2.2.2.2.2; omega
      have HN3 := Lib.hid hn3
      clear hn1 hn2 hn3
      go_wp2_with fail
      go_loopw [57] (fun i wr => ∃ k : Nat, k ≤ x.nodes.length ∧ i = .int .i64 k ∧ Hid (Fr w0 wr) ∧ Hid (x.nodes.take k = y.nodes.take k)) (fun i _ => (x.nodes.length - intOf i).toNat)
      case atStart => exact ⟨0, by omega, rfl, Fr.refl w0, rfl⟩
      case round =>
        obtain ⟨k, hk, rfl, hf, htk⟩ := hrel
        clear a0 a1 a2 a3 a4 a5 a6 a7 b0 b1 b2 b3 b4 b5 b6 b7
        obtain ⟨a0, a1, a2, a3, a4, a5, a6, a7⟩ := rec_cells (x := x) (p := p) (HA.out.fr hf.out)
        obtain ⟨b0, b1, b2, b3, b4, b5, b6, b7⟩ := rec_cells (x := y) (p := q) (HB.out.fr hf.out)
        by_cases hlt : k < x.nodes.length
        · have hlt2 : k < y.nodes.length := by rw [HN1.out]; exact hlt
          obtain ⟨ba, oa, hba, ca⟩ := ((HR.out.1.fr HF.out).fr hf.out).at (i := k) (v := .int .i64 x.nodes[k]) (by simp [intRow, hlt])
          obtain ⟨bb, ob, hbb, cb⟩ := ((HQ.out.1.fr HF.out).fr hf.out).at (i := k) (v := .int .i64 y.nodes[k]) (by simp [intRow, hlt2])
          have HX := Lib.hid (take_step x.nodes y.nodes k hlt hlt2 htk.out)
          rw [hba] at a4
          rw [hbb] at b4
          clear hba hbb
          generalize hx : x.nodes[k] = u at *
          generalize hy : y.nodes[k] = v at *
          clear hx hy
          cases huv : (u != v)
          · have HE := Lib.hid (HX.out.1 (by simpa using huv))
            go_wp2_with fail
            go_quiet (fail)
            go_wp2
            go_roundw
            case rel => exact ⟨k + 1, by omega, by go_num, hf.out.drewN _, HE.out⟩
            case measure => simp [intOf]; omega
          · have HE := Lib.hid (not_same (fun e => HX.out.2 (by simpa using huv) (congrArg PRec.nodes e)) : false = true ↔ x = y)
            go_wp2_with fail
            go_quiet (fail)
            go_wp2
            go_ret
            exact ⟨false, rfl, HF.out.trans (hf.out.drewN _), HE.out⟩
        · obtain rfl : k = x.nodes.length := by omega
          have HE1 : Hid (x.nodes = y.nodes) := by have h := htk.out; rw [List.take_length, ← HN1.out, List.take_length] at h; exact h
          have HF2 := Lib.hid (HF.out.trans hf.out)
          have HA2 := Lib.hid (HA.out.fr hf.out)
          have HB2 := Lib.hid (HB.out.fr hf.out)
          clear hlt htk hf HF HA HB
          go_wp2_with fail
          go_loopw [75] (fun i wq => ∃ k : Nat, k ≤ x.writes.length ∧ i = .int .i64 k ∧ Hid (Fr wr wq) ∧ Hid (x.writes.take k = y.writes.take k)) (fun i _ => (x.writes.length - intOf i).toNat)
          case atStart => exact ⟨0, by omega, rfl, Fr.refl wr, rfl⟩
          case round =>
            obtain ⟨k, hk, rfl, hf, htk⟩ := hrel
            clear a0 a1 a2 a3 a4 a5 a6 a7 b0 b1 b2 b3 b4 b5 b6 b7
            obtain ⟨a0, a1, a2, a3, a4, a5, a6, a7⟩ := rec_cells (x := x) (p := p) (HA2.out.fr hf.out)
            obtain ⟨b0, b1, b2, b3, b4, b5, b6, b7⟩ := rec_cells (x := y) (p := q) (HB2.out.fr hf.out)
            by_cases hlt : k < x.writes.length
            · have hlt2 : k < y.writes.length := by rw [HN2.out]; exact hlt
              obtain ⟨ba, oa, hba, u0, u1, u2⟩ := rdWrite_at ((HR.out.2.1.fr HF2.out).fr hf.out) hlt
              obtain ⟨bb, ob, hbb, v0, v1, v2⟩ := rdWrite_at ((HQ.out.2.1.fr HF2.out).fr hf.out) hlt2
              have HX := Lib.hid (take_step x.writes y.writes k hlt hlt2 htk.out)
              rw [hba] at a5
              rw [hbb] at b5
              clear hba hbb
              generalize hx : x.writes[k] = u at *
              generalize hy : y.writes[k] = v at *
              clear hx hy
              obtain ⟨uk, uv, ud⟩ := u
              obtain ⟨vk, vv, vd⟩ := v
              simp only at u0 u1 u2 v0 v1 v2
              cases h1 : (uk.toList == vk.toList)
              · have HE := Lib.hid (not_same (fun e => HX.out.2 (fun e2 => by injection e2 with e3 _ _; rw [e3] at h1; simp at h1) (congrArg PRec.writes e)) : false = true ↔ x = y)
                go_wp2_with fail
                go_quiet (fail)
                go_wp2
                go_ret
                exact ⟨false, rfl, HF2.out.trans (hf.out.drewN _), HE.out⟩
              · cases h2 : (uv.toList == vv.toList)
                · have HE := Lib.hid (not_same (fun e => HX.out.2 (fun e2 => by injection e2 with _ e3 _; rw [e3] at h2; simp at h2) (congrArg PRec.writes e)) : false = true ↔ x = y)
                  go_wp2_with fail
                  go_quiet (fail)
                  go_wp2
                  go_ret
                  exact ⟨false, rfl, HF2.out.trans (hf.out.drewN _), HE.out⟩
                · have hk1 := bytes_eq h1
                  have hk2 := bytes_eq h2
                  have HK := Lib.hid (And.intro hk1 hk2)
                  clear hk1 hk2
                  cases ud <;> cases vd
                  · have HE := Lib.hid (HX.out.1 (by rw [HK.out.1, HK.out.2]))
                    go_wp2_with fail
                    go_quiet (fail)
                    go_wp2
                    go_roundw
                    case rel => exact ⟨k + 1, by omega, by go_num, hf.out.drewN _, HE.out⟩
                    case measure => simp [intOf]; omega
                  · have HE := Lib.hid (not_same (fun e => HX.out.2 (fun e2 => by injection e2 with _ _ e3; cases e3) (congrArg PRec.writes e)) : false = true ↔ x = y)
                    go_wp2_with fail
                    go_quiet (fail)
                    go_wp2
                    go_ret
                    exact ⟨false, rfl, HF2.out.trans (hf.out.drewN _), HE.out⟩
                  · have HE := Lib.hid (not_same (fun e => HX.out.2 (fun e2 => by injection e2 with _ _ e3; cases e3) (congrArg PRec.writes e)) : false = true ↔ x = y)
                    go_wp2_with fail
                    go_quiet (fail)
                    go_wp2
                    go_ret
                    exact ⟨false, rfl, HF2.out.trans (hf.out.drewN _), HE.out⟩
                  · have HE := Lib.hid (HX.out.1 (by rw [HK.out.1, HK.out.2]))
                    go_wp2_with fail
                    go_quiet (fail)
                    go_wp2
                    go_roundw
                    case rel => exact ⟨k + 1, by omega, by go_num, hf.out.drewN _, HE.out⟩
                    case measure => simp [intOf]; omega
            · obtain rfl : k = x.writes.length := by omega
              have HE2 : Hid (x.writes = y.writes) := by have h := htk.out; rw [List.take_length, ← HN2.out, List.take_length] at h; exact h
              have HF3 := Lib.hid (HF2.out.trans hf.out)
              have HA3 := Lib.hid (HA2.out.fr hf.out)
              have HB3 := Lib.hid (HB2.out.fr hf.out)
              clear hlt htk hf HF2 HA2 HB2
              go_wp2_with fail
              go_loopw [93] (fun i ws => ∃ k : Nat, k ≤ x.holds.length ∧ i = .int .i64 k ∧ Hid (Fr wr ws) ∧ Hid (x.holds.take k = y.holds.take k)) (fun i _ => (x.holds.length - intOf i).toNat)
              case atStart => exact ⟨0, by omega, rfl, Fr.refl wr, rfl⟩
              case round =>
                obtain ⟨k, hk, rfl, hf, htk⟩ := hrel
                clear a0 a1 a2 a3 a4 a5 a6 a7 b0 b1 b2 b3 b4 b5 b6 b7
                obtain ⟨a0, a1, a2, a3, a4, a5, a6, a7⟩ := rec_cells (x := x) (p := p) (HA3.out.fr hf.out)
                obtain ⟨b0, b1, b2, b3, b4, b5, b6, b7⟩ := rec_cells (x := y) (p := q) (HB3.out.fr hf.out)
                by_cases hlt : k < x.holds.length
                · have hlt2 : k < y.holds.length := by rw [HN3.out]; exact hlt
                  obtain ⟨ba, oa, hba, u0, u1⟩ := rdHold_at ((HR.out.2.2.fr HF3.out).fr hf.out) hlt
                  obtain ⟨bb, ob, hbb, v0, v1⟩ := rdHold_at ((HQ.out.2.2.fr HF3.out).fr hf.out) hlt2
                  have HX := Lib.hid (take_step x.holds y.holds k hlt hlt2 htk.out)
                  rw [hba] at a6
                  rw [hbb] at b6
                  clear hba hbb
                  generalize hx : x.holds[k] = u at *
                  generalize hy : y.holds[k] = v at *
                  clear hx hy
                  obtain ⟨uk, um⟩ := u
                  obtain ⟨vk, vm⟩ := v
                  simp only at u0 u1 v0 v1
                  cases h1 : (uk.toList == vk.toList)
                  · have HE := Lib.hid (not_same (fun e => HX.out.2 (fun e2 => by injection e2 with e3 _; rw [e3] at h1; simp at h1) (congrArg PRec.holds e)) : false = true ↔ x = y)
                    go_wp2_with fail
                    go_quiet (fail)
                    go_wp2
                    go_ret
                    exact ⟨false, rfl, HF3.out.trans (hf.out.drewN _), HE.out⟩
                  · cases h2 : (um == vm)
                    · have HE := Lib.hid (not_same (fun e => HX.out.2 (fun e2 => by injection e2 with _ e3; rw [e3] at h2; simp at h2) (congrArg PRec.holds e)) : false = true ↔ x = y)
                      go_wp2_with fail
                      go_quiet (fail)
                      go_wp2
                      go_ret
                      exact ⟨false, rfl, HF3.out.trans (hf.out.drewN _), HE.out⟩
                    · have HE := Lib.hid (HX.out.1 (by rw [bytes_eq h1, beq_iff_eq.1 h2]))
                      go_wp2_with fail
                      go_quiet (fail)
                      go_wp2
                      go_roundw
                      case rel => exact ⟨k + 1, by omega, by go_num, hf.out.drewN _, HE.out⟩
                      case measure => simp [intOf]; omega
                · obtain rfl : k = x.holds.length := by omega
                  have HE3 : Hid (x.holds = y.holds) := by have h := htk.out; rw [List.take_length, ← HN3.out, List.take_length] at h; exact h
                  have HF4 := Lib.hid (HF3.out.trans hf.out)
                  clear hlt htk hf HF3 HA3 HB3
                  go_wp2
                  go_ret
                  exact ⟨true, rfl, HF4.out, fun _ => all_same HSH.out HE1.out HE2.out HE3.out, fun _ => rfl⟩

end Go.Proofs.Ytoanelahjgaojaa
