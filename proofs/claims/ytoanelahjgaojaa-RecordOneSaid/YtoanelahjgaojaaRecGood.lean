/- The walk of record.Good. -/
import Derived.Test.YtoanelahjgaojaaRecPure
import Derived.Deep.CutBlock
import Derived.Deep.DeepCutAuto
namespace Go.Proofs.Ytoanelahjgaojaa
open Go.RowKit
set_option linter.unusedVariables false
set_option maxRecDepth 100000

theorem rec_cells {w : World} {g : Nat} {T : TypeId} {x : PRec} {p : RecPl} (h : Blk w g T (recCells x p)) :
    w.cell? ⟨g, 0, none⟩ = some (.int .i64 x.kind) ∧ w.cell? ⟨g, 1, none⟩ = some (.int .i64 x.node) ∧ w.cell? ⟨g, 2, none⟩ = some (.int .i64 x.epoch) ∧ w.cell? ⟨g, 3, none⟩ = some (.int .i64 x.num) ∧
    w.cell? ⟨g, 4, none⟩ = some (.slice p.an x.nodes.length p.cn) ∧ w.cell? ⟨g, 5, none⟩ = some (.slice p.aw x.writes.length p.cw) ∧ w.cell? ⟨g, 6, none⟩ = some (.slice p.ah x.holds.length p.ch) ∧ w.cell? ⟨g, 7, none⟩ = some (.string x.schema) :=
  ⟨h.cell 0, h.cell 1, h.cell 2, h.cell 3, h.cell 4, h.cell 5, h.cell 6, h.cell 7⟩
theorem empty_eq (s : ByteArray) : (s.data.toList == ([] : List UInt8)) = decide (s = ⟨#[]⟩) := by
  by_cases h : s = ⟨#[]⟩
  · subst h; rfl
  · rw [decide_eq_false h, beq_eq_false_iff_ne]
    exact fun e => h (ba_ext e)

theorem bare_of (x : PRec) (h1 : decide (0 < x.writes.length) = false) (h2 : decide (0 < x.holds.length) = false) : (!x.schema.toList.isEmpty) = !decide x.bare := by
  have e1 : x.writes = [] := List.length_eq_zero_iff.1 (by have := of_decide_eq_false h1; omega)
  have e2 : x.holds = [] := List.length_eq_zero_iff.1 (by have := of_decide_eq_false h2; omega)
  congr 1
  rw [ByteArray.toList_eq]
  by_cases h : x.schema = ⟨#[]⟩
  · rw [decide_eq_true (show x.bare from ⟨e1, e2, h⟩), h]
    rfl
  · rw [decide_eq_false (show ¬ x.bare from fun k => h k.2.2)]
    cases h6 : x.schema.data.toList.isEmpty with
    | false => rfl
    | true =>
      rw [List.isEmpty_iff] at h6
      exact absurd (ba_ext h6) h
theorem kind_no {x : PRec} (h : ¬ x.kindOk) : false = true ↔ x.good := ⟨fun h => Bool.noConfusion h, fun k => absurd k.1 h⟩
/-- So many nodes rise. -/
def risenTo (l : List Int) (k : Nat) : Prop := ∀ i (h : i < l.length), i < k → 0 ≤ l[i] ∧ l[i] < 4 ∧ (0 < i → l[i - 1]'(by omega) < l[i])
theorem node_no (x : PRec) (k : Nat) (h : k < x.nodes.length) (hn : x.nodes[k] < 0 ∨ 4 ≤ x.nodes[k] ∨ ∃ h0 : 0 < k, x.nodes[k] ≤ x.nodes[k - 1]'(by omega)) : false = true ↔ x.good :=
  ⟨fun h => Bool.noConfusion h, fun g => by
    have h1 := g.2.1 k h
    rcases hn with hn | hn | ⟨h0, hn⟩
    · omega
    · omega
    · have := h1.2.2 h0
      omega⟩
theorem node_yes (x : PRec) (k : Nat) (h : k < x.nodes.length) (hall : risenTo x.nodes k) (hn : 0 ≤ x.nodes[k] ∧ x.nodes[k] < 4 ∧ (0 < k → x.nodes[k - 1]'(by omega) < x.nodes[k])) : risenTo x.nodes (k + 1) := by
  intro i hi hik
  by_cases e : i = k
  · subst e; exact hn
  · exact hall i hi (by omega)
theorem not_bare1 (x : PRec) (h1 : decide (0 < x.writes.length) = true) : true = !decide x.bare := by
  rw [decide_eq_false (show ¬ x.bare from fun k => by rw [k.1] at h1; simp at h1)]
  rfl
theorem not_bare2 (x : PRec) (h1 : decide (0 < x.holds.length) = true) : true = !decide x.bare := by
  rw [decide_eq_false (show ¬ x.bare from fun k => by rw [k.2.1] at h1; simp at h1)]
  rfl

set_option maxHeartbeats 4000000 in
theorem rec_good (x : PRec) (p : RecPl) (w : World) (hs : x.sized) (hr : RecAt w x p) :
    Calls Try.prog 24 #[.agg (recCells x p)] w (GoodPost x w) := by
  have HR := Lib.hid hr
  have HS := Lib.hid hs
  clear hs hr
  have l1 : x.nodes.length ≤ 1000000000000000 := HS.out.2.2.2.2.2.2.1
  have l2 : x.writes.length ≤ 1000000000000000 := HS.out.2.2.2.2.2.2.2.1
  have l3 : x.holds.length ≤ 1000000000000000 := HS.out.2.2.2.2.2.2.2.2.1
  have hblk := Blk.new w 28 (recCells x p)
  have HB := Lib.hid hblk
  have HF := Lib.hid ((Fr.refl w).alloc (.cells (recCells x p) 28))
  clear hblk
  go_enter Try.func24, Try.ntmps24
  unfold recCells at HB HF ⊢
  go_upto_region 1 with (fail)
  generalize w.heap.size = g at HB ⊢
  generalize hw0 : w.alloc _ = w0 at HB HF ⊢
  clear hw0
  obtain ⟨c0, c1, c2, c3, c4, c5, c6, c7⟩ := rec_cells (x := x) (p := p) HB.out
  go_upto_region 1 with (fail)
  go_cut [3] (fun s3 wx => s3 = .bool (!decide x.bare) ∧ Hid (w0 = wx))
  case first =>
    cases e1 : decide (0 < x.writes.length)
    · cases e2 : decide (0 < x.holds.length)
      · go_wp2
        go_meet
        exact ⟨congrArg Value.bool (bare_of x e1 e2), rfl⟩
      · go_wp2
        go_meet
        exact ⟨congrArg Value.bool (not_bare2 x e2), rfl⟩
    · go_wp2
      go_meet
      exact ⟨congrArg Value.bool (not_bare1 x e1), rfl⟩
  case rest =>
    obtain ⟨rfl, hw⟩ := hcut
    obtain rfl := hw.out
    clear hw
    have HF2 : Hid (Fr w w0) := HF.out
    clear HF
    go_upto_block 0 with fail
    go_cut [3] (fun _ wx => Hid (w0 = wx) ∧ Hid x.kindOk)
    case first =>
      rcases (show x.kind = 1 ∨ x.kind = 4 ∨ (x.kind = 2 ∨ x.kind = 3 ∨ x.kind = 5) ∨ (x.kind < 1 ∨ 5 < x.kind) by omega) with hk | hk | hk | hk
      · have e1 : (x.kind == 1) = true := by rw [beq_iff_eq]; exact hk
        have HK := Lib.hid hk
        clear hk
        go_wp2
        go_meet
        exact ⟨rfl, .inl HK.out⟩
      · have e1 : (x.kind == 1) = false := by rw [beq_eq_false_iff_ne]; omega
        have e2 : (x.kind == 4) = true := by rw [beq_iff_eq]; exact hk
        have HK := Lib.hid hk
        clear hk
        cases e3 : decide x.bare
        · go_wp2
          go_ret
          exact ⟨false, rfl, HF2.out, kind_no (fun h => by
            rcases h with h | ⟨_, h⟩ | ⟨h, _⟩
            · have := HK.out; omega
            · exact of_decide_eq_false e3 h
            · have := HK.out; omega)⟩
        · go_wp2
          go_meet
          exact ⟨rfl, .inr (.inl ⟨HK.out, of_decide_eq_true e3⟩)⟩
      · have e1 : (x.kind == 1) = false := by rw [beq_eq_false_iff_ne]; omega
        have e2 : (x.kind == 4) = false := by rw [beq_eq_false_iff_ne]; omega
        have e5 : (x.kind == 2) = true ∨ ((x.kind == 2) = false ∧ (x.kind == 3) = true) ∨ ((x.kind == 2) = false ∧ (x.kind == 3) = false ∧ (x.kind == 5) = true) := by
          rcases hk with h | h | h
          · exact .inl (by rw [beq_iff_eq]; exact h)
          · exact .inr (.inl ⟨by rw [beq_eq_false_iff_ne]; omega, by rw [beq_iff_eq]; exact h⟩)
          · exact .inr (.inr ⟨by rw [beq_eq_false_iff_ne]; omega, by rw [beq_eq_false_iff_ne]; omega, by rw [beq_iff_eq]; exact h⟩)
        have HK := Lib.hid hk
        clear hk
        cases e3 : decide x.bare
        · have hno : ¬ x.kindOk := fun h => by
            rcases h with h | ⟨_, h⟩ | ⟨_, h, _⟩
            · have := HK.out; omega
            · exact of_decide_eq_false e3 h
            · exact of_decide_eq_false e3 h
          have HNO := Lib.hid hno
          clear hno
          rcases e5 with e5 | ⟨e5, e6⟩ | ⟨e5, e6, e7⟩
          all_goals
            go_wp2
            go_ret
            exact ⟨false, rfl, HF2.out, kind_no HNO.out⟩
        · cases e4 : decide (0 < x.nodes.length)
          · have hok : x.kindOk := .inr (.inr ⟨HK.out, of_decide_eq_true e3, List.length_eq_zero_iff.1 (by have := of_decide_eq_false e4; omega)⟩)
            have HOK := Lib.hid hok
            clear hok
            rcases e5 with e5 | ⟨e5, e6⟩ | ⟨e5, e6, e7⟩
            all_goals
              go_wp2
              go_meet
              exact ⟨rfl, HOK.out⟩
          · have hno : ¬ x.kindOk := fun h => by
              rcases h with h | ⟨h, _⟩ | ⟨_, _, h⟩
              · have := HK.out; omega
              · have := HK.out; omega
              · rw [h] at e4; simp at e4
            have HNO := Lib.hid hno
            clear hno
            rcases e5 with e5 | ⟨e5, e6⟩ | ⟨e5, e6, e7⟩
            all_goals
              go_wp2
              go_ret
              exact ⟨false, rfl, HF2.out, kind_no HNO.out⟩
      · have e1 : (x.kind == 1) = false := by rw [beq_eq_false_iff_ne]; omega
        have e2 : (x.kind == 4) = false := by rw [beq_eq_false_iff_ne]; omega
        have e3 : (x.kind == 2) = false := by rw [beq_eq_false_iff_ne]; omega
        have e4 : (x.kind == 3) = false := by rw [beq_eq_false_iff_ne]; omega
        have e5 : (x.kind == 5) = false := by rw [beq_eq_false_iff_ne]; omega
        have hno : ¬ x.kindOk := fun h => by
          rcases h with h | ⟨h, _⟩ | ⟨h, _⟩ <;> omega
        have HNO := Lib.hid hno
        clear hno hk
        go_wp2
        go_ret
        exact ⟨false, rfl, HF2.out, kind_no HNO.out⟩
    case rest =>
      obtain ⟨hw, HKO⟩ := hcut
      obtain rfl := hw.out
      clear hw
      obtain ⟨hr1, hr2, hr3⟩ := HR.out.fr HF2.out
      have HR2 := Lib.hid hr2
      have HR3 := Lib.hid hr3
      clear hr2 hr3
      go_wp2_with fail
      go_loop [46] (fun i => ∃ k : Nat, k ≤ x.nodes.length ∧ i = .int .i64 k ∧ Hid (risenTo x.nodes k)) (fun i => (x.nodes.length - intOf i).toNat)
      case atStart => exact ⟨0, by omega, rfl, fun i _ h => by omega⟩
      case round =>
        obtain ⟨k, hk, rfl, hall⟩ := hrel
        by_cases hlt : k < x.nodes.length
        · obtain ⟨b, o, hb1, hcell⟩ := hr1.at (i := k) (v := .int .i64 x.nodes[k]) (by simp [intRow, hlt])
          have hprev : ∀ (h0 : 0 < k), w0.cell? ⟨b, o + (k - 1), none⟩ = some (.int .i64 (x.nodes[k - 1]'(by omega))) := fun h0 => by
            obtain ⟨b', o', hb2, hc2⟩ := hr1.at (i := k - 1) (v := .int .i64 (x.nodes[k - 1]'(by omega))) (by simp [intRow])
            rw [hb1] at hb2
            injection hb2 with hb2
            injection hb2 with hb3 hb4
            subst hb3
            subst hb4
            exact hc2
          have HNO := Lib.hid (node_no x k hlt)
          have HYES := Lib.hid (node_yes x k hlt hall.out)
          have HB1 := Lib.hid hb1
          rw [hb1] at c4 ⊢
          clear hr1 hb1
          generalize hn : x.nodes[k] = n at *
          by_cases h1 : n < 0
          · have d1 : decide (n < 0) = true := decide_eq_true h1
            go_wp2
            go_ret
            exact ⟨false, rfl, HF2.out, HNO.out (.inl h1)⟩
          · have d1 : decide (n < 0) = false := decide_eq_false h1
            by_cases h2 : 4 ≤ n
            · have d2 : decide (4 ≤ n) = true := decide_eq_true h2
              go_wp2
              go_ret
              exact ⟨false, rfl, HF2.out, HNO.out (.inr (.inl h2))⟩
            · have d2 : decide (4 ≤ n) = false := decide_eq_false h2
              by_cases h3 : 0 < k
              · obtain ⟨m, rfl⟩ : ∃ m, k = m + 1 := ⟨k - 1, by omega⟩
                have d3 : decide (0 < m + 1) = true := decide_eq_true h3
                have hc2 : w0.cell? ⟨b, o + m, none⟩ = some (.int .i64 (x.nodes[m]'(by omega))) := hprev h3
                have hk1 : IntKind.i64.wrap (((m + 1 : Nat) : Int) - 1) = (m : Int) := (IntWalk.i64_in _ (by omega)).trans (by omega)
                have HNO2 : Hid ((x.nodes[m]'(by omega)) ≥ n → (false = true ↔ x.good)) := fun h => HNO.out (.inr (.inr ⟨h3, h⟩))
                have HYES2 : Hid ((x.nodes[m]'(by omega)) < n → risenTo x.nodes (m + 1 + 1)) := fun h => HYES.out ⟨by omega, by omega, fun _ => h⟩
                have hltm : m < x.nodes.length := by omega
                clear hprev HNO HYES h1 h2
                generalize hpv : x.nodes[m]'(by omega) = pv at *
                by_cases h4 : n ≤ pv
                · have d4 : decide (n ≤ pv) = true := decide_eq_true h4
                  go_wp2
                  go_ret
                  exact ⟨false, rfl, HF2.out, HNO2.out h4⟩
                · have d4 : decide (n ≤ pv) = false := decide_eq_false h4
                  go_wp2
                  go_round
                  case rel => exact ⟨m + 1 + 1, by omega, by go_num, HYES2.out (by omega)⟩
                  case measure => simp [intOf]; omega
              · have d3 : decide (0 < k) = false := decide_eq_false h3
                have HX := Lib.hid (HYES.out ⟨by omega, by omega, fun h => absurd h h3⟩)
                clear h1 h2
                go_wp2
                go_round
                case rel => exact ⟨k + 1, by omega, by go_num, HX.out⟩
                case measure => simp [intOf]; omega
        · obtain rfl : k = x.nodes.length := by omega
          have HRI : Hid (risen x.nodes) := fun i h => hall.out i h h
          clear hall hlt hr1
          go_wp2_with fail
          go_loopw [75] (fun i wr => ∃ k : Nat, k ≤ x.holds.length ∧ i = .int .i64 k ∧ Hid (Fr w0 wr) ∧ Hid (∀ i (h : i < x.holds.length), i < k → 1 ≤ x.holds[i].mode ∧ x.holds[i].mode ≤ 5)) (fun i _ => (x.holds.length - intOf i).toNat)
          case atStart => exact ⟨0, by omega, rfl, Fr.refl w0, fun i _ h => by omega⟩
          case round =>
            obtain ⟨k, hk, rfl, hf, hall⟩ := hrel
            by_cases hlt : k < x.holds.length
            · obtain ⟨b, o, hb1, y0, y1⟩ := rdHold_at (HR3.out.fr hf.out) hlt
              have HNO : Hid ((x.holds[k].mode < 1 ∨ 5 < x.holds[k].mode) → (false = true ↔ x.good)) := fun h => ⟨fun h => Bool.noConfusion h, fun g => by
                have := g.2.2.1 x.holds[k] (List.getElem_mem hlt); omega⟩
              have HYES : Hid (1 ≤ x.holds[k].mode ∧ x.holds[k].mode ≤ 5 → ∀ i (h : i < x.holds.length), i < k + 1 → 1 ≤ x.holds[i].mode ∧ x.holds[i].mode ≤ 5) := fun h i hi hik => by
                by_cases e : i = k
                · subst e; exact h
                · exact hall.out i hi (by omega)
              rw [hb1]
              clear hall hb1 c0 c1 c2 c3 c4 c5 c6 c7
              generalize hx : x.holds[k] = hk at *
              obtain ⟨hkey, hmode⟩ := hk
              simp only at *
              clear hx
              by_cases h1 : hmode < 1
              · have d1 : decide (hmode < 1) = true := decide_eq_true h1
                go_wp2
                go_ret
                exact ⟨false, rfl, HF2.out.trans (hf.out.alloc _), HNO.out (.inl h1)⟩
              · have d1 : decide (hmode < 1) = false := decide_eq_false h1
                by_cases h2 : 5 < hmode
                · have d2 : decide (5 < hmode) = true := decide_eq_true h2
                  go_wp2
                  go_ret
                  exact ⟨false, rfl, HF2.out.trans (hf.out.alloc _), HNO.out (.inr h2)⟩
                · have d2 : decide (5 < hmode) = false := decide_eq_false h2
                  have HX := Lib.hid (HYES.out ⟨by omega, by omega⟩)
                  clear h1 h2
                  go_wp2
                  go_roundw
                  case rel => exact ⟨k + 1, by omega, by go_num, hf.out.alloc _, HX.out⟩
                  case measure => simp [intOf]; omega
            · obtain rfl : k = x.holds.length := by omega
              have HHO : Hid (∀ h ∈ x.holds, 1 ≤ h.mode ∧ h.mode ≤ 5) := fun h hh => by
                obtain ⟨i, hi, rfl⟩ := List.getElem_of_mem hh
                exact hall.out i hi hi
              have HB2 := Lib.hid (HB.out.fr hf.out)
              have HR4 := Lib.hid (HR2.out.fr hf.out)
              have HF3 := Lib.hid (HF2.out.trans hf.out)
              clear hall hlt c0 c1 c2 c3 c4 c5 c6 c7 HB HR2 HR3 HF2 hf
              obtain ⟨c0, c1, c2, c3, c4, c5, c6, c7⟩ := rec_cells (x := x) (p := p) HB2.out
              go_wp2_with fail
              go_loopw [91] (fun i wq => ∃ k : Nat, k ≤ x.writes.length ∧ i = .int .i64 k ∧ Hid (Fr wr wq) ∧ Hid (∀ i (h : i < x.writes.length), i < k → ¬ (x.writes[i].del = true ∧ x.writes[i].val ≠ ⟨#[]⟩))) (fun i _ => (x.writes.length - intOf i).toNat)
              case atStart => exact ⟨0, by omega, rfl, Fr.refl wr, fun i _ h => by omega⟩
              case round =>
                obtain ⟨k, hk, rfl, hf, hall⟩ := hrel
                by_cases hlt : k < x.writes.length
                · obtain ⟨b, o, hb1, y0, y1, y2⟩ := rdWrite_at (HR4.out.fr hf.out) hlt
                  have HNO : Hid ((x.writes[k].del = true ∧ x.writes[k].val ≠ ⟨#[]⟩) → (false = true ↔ x.good)) := fun h => ⟨fun h => Bool.noConfusion h, fun g => absurd h (g.2.2.2.1 x.writes[k] (List.getElem_mem hlt))⟩
                  have HYES : Hid (¬ (x.writes[k].del = true ∧ x.writes[k].val ≠ ⟨#[]⟩) → ∀ i (h : i < x.writes.length), i < k + 1 → ¬ (x.writes[i].del = true ∧ x.writes[i].val ≠ ⟨#[]⟩)) := fun h i hi hik => by
                    by_cases e : i = k
                    · subst e; exact h
                    · exact hall.out i hi (by omega)
                  rw [hb1]
                  clear hall hb1 c0 c1 c2 c3 c4 c5 c6 c7
                  generalize hx : x.writes[k] = xk at *
                  obtain ⟨wkey, wval, wdel⟩ := xk
                  simp only at *
                  clear hx
                  cases wdel
                  · have HX := Lib.hid (HYES.out (by simp))
                    go_wp2
                    go_roundw
                    case rel => exact ⟨k + 1, by omega, by go_num, hf.out.alloc _, HX.out⟩
                    case measure => simp [intOf]; omega
                  · cases d1 : wval.toList.isEmpty
                    · have HX := Lib.hid (HNO.out ⟨rfl, fun e => by rw [e] at d1; rw [ByteArray.toList_eq] at d1; cases d1⟩)
                      go_wp2
                      go_ret
                      exact ⟨false, rfl, HF3.out.trans (hf.out.alloc _), HX.out⟩
                    · have HX := Lib.hid (HYES.out (fun h => h.2 (by rw [List.isEmpty_iff, ByteArray.toList_eq] at d1; exact ba_ext d1)))
                      go_wp2
                      go_roundw
                      case rel => exact ⟨k + 1, by omega, by go_num, hf.out.alloc _, HX.out⟩
                      case measure => simp [intOf]; omega
                · obtain rfl : k = x.writes.length := by omega
                  have HWR : Hid (∀ w ∈ x.writes, ¬ (w.del = true ∧ w.val ≠ ⟨#[]⟩)) := fun h hh => by
                    obtain ⟨i, hi, rfl⟩ := List.getElem_of_mem hh
                    exact hall.out i hi hi
                  have HB3 := Lib.hid (HB2.out.fr hf.out)
                  have HF4 := Lib.hid (HF3.out.trans hf.out)
                  clear hall hlt c0 c1 c2 c3 c4 c5 c6 c7 HB2 HR4 HF3 hf
                  obtain ⟨c0, c1, c2, c3, c4, c5, c6, c7⟩ := rec_cells (x := x) (p := p) HB3.out
                  by_cases h1 : x.writes.length ≤ 1000
                  · have d1 : decide (x.writes.length ≤ 1000) = true := decide_eq_true h1
                    have d2 : ((x.writes.length : Int) ≤ 1000) := by omega
                    go_wp2
                    all_goals
                      go_ret
                      refine ⟨_, rfl, HF4.out, ?_⟩
                      rw [decide_eq_true_iff]
                      exact ⟨fun h => ⟨HKO.out, HRI.out, HHO.out, HWR.out, h1, by omega⟩, fun g => by have := g.2.2.2.2.2; omega⟩
                  · have d1 : decide (x.writes.length ≤ 1000) = false := decide_eq_false h1
                    have d2 : ¬ ((x.writes.length : Int) ≤ 1000) := by omega
                    go_wp2
                    all_goals
                      go_ret
                      exact ⟨false, rfl, HF4.out, fun h => Bool.noConfusion h, fun g => absurd g.2.2.2.2.1 h1⟩

end Go.Proofs.Ytoanelahjgaojaa
