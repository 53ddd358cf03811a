/- The walk of the reference's Reader. -/
import Derived.Test.YtkifcmlehiidiaaPackR2
import Derived.Test.YtkifcmlehiidiaaPackRef
import Derived.Test.YtkifcmlehiidiaaRefPure
import Derived.Deep.CutBlock
import Derived.Deep.DeepCutAuto
import Derived.Deep.LoopGhost
namespace Go.Proofs.Ytkifcmlehiidiaa
open Go.RowKit
set_option linter.unusedVariables false

theorem hv_bound {l : List UInt8} (h1 : ¬ (l.length ≤ lead l ∨ 9 < lead l)) (h2 : ¬ ((lead l = 9 ∧ 1 < lastB l) ∨ (0 < lead l ∧ lastB l = 0))) : hv l < 18446744073709551616 := by
  have h := decV_lead l 0 0 (by omega)
  simp only [Nat.zero_add, Nat.pow_zero, Nat.mul_one] at h
  rw [if_neg h1, if_neg h2] at h
  obtain ⟨x, rest, e1, e2, e3, e4, e5⟩ := decV_put l 0 0 _ _ (by omega) h
  omega
theorem wrapU (x : Int) : IntKind.u64.wrap x = x % 18446744073709551616 := by simp [IntKind.wrap, IntKind.signed, IntKind.bits]
def IsQ (g : Nat) (s : ByteArray) (st : Option Nat) : Asr := fun S w => ∃ at_ : Nat, w.heap[g]? = some (.cells #[.string s, .int .i64 at_, .bool st.isNone] 61 (0, 0)) ∧
  at_ ≤ s.size ∧ (∀ a, st = some a → at_ = a) ∧ (∀ k, S k ↔ k = g)
theorem IsQ.local (g : Nat) (s : ByteArray) (st : Option Nat) : LocalA (IsQ g s st) := by
  refine ⟨?_, ?_⟩
  · rintro S w w' ⟨a, h1, h2, h3, h4⟩ hk
    exact ⟨a, (hk g ((h4 g).2 rfl)).trans h1, h2, h3, h4⟩
  · rintro S w k ⟨a, h1, h2, h3, h4⟩ hk
    rw [(h4 k).1 hk]
    exact lt_of_heap h1
theorem IsQ.at_ {g : Nat} {s : ByteArray} {st : Option Nat} {S : Nat → Prop} {w0 w w' : World} (hst : Step (fun k => k = g) w0 w) (hS : ∀ k, S k ↔ k = g) (hs : Step (fun k => k = g) w w')
    {at_ : Nat} (h : w'.heap[g]? = some (.cells #[.string s, .int .i64 at_, .bool st.isNone] 61 (0, 0))) (hle : at_ ≤ s.size) (ha : ∀ a, st = some a → at_ = a) : Upd S (IsQ g s st) w0 w' :=
  ⟨S, ⟨at_, h, hle, ha, hS⟩, (hst.trans hs (fun i hi => .inl hi)).mono (fun k hk => (hS k).2 hk), fun k hk => .inl hk⟩

set_option maxHeartbeats 400000 in
theorem refr_int_bad (g : Nat) (s : ByteArray) (S : Nat → Prop) (w : World) (h : IsQ g s none S w) :
    Calls Try.prog 28 #[.pointer (some ⟨g, 0, none⟩)] w fun e w' => e = .returned (.int .i64 0) ∧ w = w' := by
  obtain ⟨a, h1, _, _⟩ := h
  obtain ⟨c0, c1, c2, f1, f2⟩ := cell3 h1
  simp only [Option.isNone] at c2
  clear h1
  go_enter Try.func28, Try.ntmps28
  go_wp2
  go_ret
  exact ⟨rfl, rfl⟩

set_option maxHeartbeats 4000000 in
set_option maxRecDepth 100000 in
theorem refr_int_good (g : Nat) (s : ByteArray) (a : Nat) (S : Nat → Prop) (w : World) (h : IsQ g s (some a) S w) (hs : s.size ≤ 9223372036854775000) :
    Calls Try.prog 28 #[.pointer (some ⟨g, 0, none⟩)] w fun e w' => e = .returned (.int .i64 (rI s.data.toList (some a)).1) ∧ Upd S (IsQ g s (rI s.data.toList (some a)).2) w w' := by
  obtain ⟨at_, h1, h2, h3, h4⟩ := h
  obtain rfl := h3 a rfl
  have H1 := Lib.hid h1
  have H4 := Lib.hid h4
  obtain ⟨c0, c1, c2, f1, f2⟩ := cell3 h1
  simp only [Option.isNone] at c2
  clear h1 h3 h4
  obtain ⟨l, hl⟩ : ∃ l, l = s.data.toList.drop at_ := ⟨_, rfl⟩
  have hll : l.length = s.size - at_ := by rw [hl, List.length_drop, ba_len]
  have hld := lead_le l
  obtain ⟨m, hm⟩ : ∃ m, m = lead l := ⟨_, rfl⟩
  rw [← hm] at hld
  have HL := Lib.hid hl
  have HM := Lib.hid hm
  have HLL := Lib.hid hll
  have hma : at_ + m ≤ s.size := by omega
  clear hl hm hll hld
  have HAT : Hid (∀ k (h : at_ + k < s.size), k < m → 128 ≤ s[at_ + k].toNat) := fun k h hk => by
    have h2 := lead_lt (l := l) (k := k) (by rw [← HM.out]; exact hk) (by rw [HLL.out]; omega)
    have e : l[k]'(by rw [HLL.out]; omega) = s[at_ + k] := by
      simp only [HL.out, List.getElem_drop]; rfl
    rwa [e] at h2
  have HEND : Hid (∀ (h : at_ + m < s.size), s[at_ + m].toNat < 128) := fun h => by
    have h2 := lead_at (l := l) (by rw [← HM.out, HLL.out]; omega)
    have e : l[lead l]'(by rw [← HM.out, HLL.out]; omega) = s[at_ + m] := by
      simp only [HL.out, List.getElem_drop, HM.out]; rfl
    rwa [e] at h2
  go_enter Try.func28, Try.ntmps28
  go_upto_block 0 with fail
  clear c0 c1 c2 f1 f2
  go_cut [3] (fun s3 wx => s3 = .int .i64 m ∧ Hid (wx.heap[g]? = some (.cells #[.string s, .int .i64 at_, .bool false] 61 (0, 0))) ∧ Hid (Step (fun k => k = g) w wx))
  case first =>
    go_wp2_with fail
    go_loopg [3] m (fun gh s3 wr => ∃ k : Nat, k ≤ m ∧ gh = m - k ∧ s3 = .int .i64 k ∧ Hid (wr.heap[g]? = some (.cells #[.string s, .int .i64 at_, .bool false] 61 (0, 0))) ∧ Hid (Step (fun k => k = g) w wr))
    case atStart => exact ⟨0, by omega, by omega, rfl, H1.out, Step.refl _ _⟩
    case round =>
      obtain ⟨k, hk, rfl, rfl, hb, hst⟩ := hrel
      obtain ⟨c0, c1, c2, f1, f2⟩ := cell3 hb.out
      by_cases hlt : k < m
      · have hin : at_ + k < s.size := by omega
        have h128 := HAT.out k hin hlt
        obtain ⟨p, hp⟩ : ∃ p, p = at_ + k := ⟨_, rfl⟩
        have hinz : (at_ : Int) + (k : Int) < (s.size : Int) := by omega
        have h0z : 0 ≤ (at_ : Int) + (k : Int) := by omega
        have hto : ((at_ : Int) + (k : Int)).toNat = at_ + k := by omega
        generalize hc : s[at_ + k] = c at *
        have h128z : 128 ≤ (c.toNat : Int) := by omega
        go_wp2_with fail
        go_quiet (fail)
        go_wp2
        go_roundg (m - (k + 1))
        case measure => omega
        case rel => exact ⟨k + 1, by omega, rfl, by go_num, hb.out, hst.out.drewN nq⟩
      · obtain rfl : k = m := by omega
        by_cases hin : at_ + k < s.size
        · have h128 := HEND.out hin
          have hinz : (at_ : Int) + (k : Int) < (s.size : Int) := by omega
          have h0z : 0 ≤ (at_ : Int) + (k : Int) := by omega
          have hto : ((at_ : Int) + (k : Int)).toNat = at_ + k := by omega
          generalize hc : s[at_ + k] = c at *
          have h128z : (c.toNat : Int) < 128 := by omega
          have h128b : decide (128 ≤ (c.toNat : Int)) = false := by simp; omega
          go_wp2_with fail
          go_quiet (fail)
          go_wp2
          go_meet
          exact ⟨rfl, hb.out, hst.out.drewN nq⟩
        · have hinz : (s.size : Int) ≤ (at_ : Int) + (k : Int) := by omega
          have hinb : decide ((at_ : Int) + (k : Int) < (s.size : Int)) = false := by simp; omega
          clear hin
          go_wp2_with fail
          go_quiet (fail)
          go_wp2
          go_meet
          exact ⟨rfl, hb.out, hst.out.drewN nq⟩
  case rest =>
    obtain ⟨rfl, hb, hst⟩ := hcut
    obtain ⟨c0, c1, c2, f1, f2⟩ := cell3 hb.out
    have HDEC := Lib.hid (decI_lead l)
    by_cases hend : at_ + m = s.size
    · have hz : (s.size : Int) ≤ (at_ : Int) + (m : Int) := by omega
      have hzb : decide ((s.size : Int) ≤ (at_ : Int) + (m : Int)) = true := by simp; omega
      have HN := Lib.hid (show rI s.data.toList (some at_) = (0, none) by
        unfold rI
        simp only [← HL.out, HDEC.out]
        rw [if_pos (by rw [HLL.out, ← HM.out]; omega)])
      clear HDEC
      have HEQ := Lib.hid hend
      clear hend
      go_wp2_with fail
      go_quiet (fail)
      go_wp2
      go_ret
      rw [HN.out]
      exact ⟨rfl, IsQ.at_ hst.out H4.out (((Step.refl _ wc).drewN nq).set1 2 _) (set3_2 (w := wc.drewN nq) hb.out) h2 (fun _ h => by cases h)⟩
    · have hin : at_ + m < s.size := by omega
      have hz : (at_ : Int) + (m : Int) < (s.size : Int) := by omega
      have hzb : decide ((s.size : Int) ≤ (at_ : Int) + (m : Int)) = false := by simp; omega
      by_cases h9 : 9 < m
      · have HN := Lib.hid (show rI s.data.toList (some at_) = (0, none) by
          unfold rI
          simp only [← HL.out, HDEC.out]
          rw [if_pos (by rw [HLL.out, ← HM.out]; omega)])
        clear HDEC
        have h9z : 9 < (m : Int) := by omega
        go_wp2_with fail
        go_quiet (fail)
        go_wp2
        go_ret
        rw [HN.out]
        exact ⟨rfl, IsQ.at_ hst.out H4.out (((Step.refl _ wc).drewN nq).set1 2 _) (set3_2 (w := wc.drewN nq) hb.out) h2 (fun _ h => by cases h)⟩
      · have h9z : (m : Int) ≤ 9 := by omega
        have h9b : decide (9 < (m : Int)) = false := by simp; omega
        go_wp2_with fail
        go_quiet (fail)
        go_wp2_with fail
        have hml : lead l < l.length := by rw [← HM.out, HLL.out]; omega
        have HSTEP : Hid (∀ k (h : at_ + k < s.size), k < m → hv (l.drop k) = s[at_ + k].toNat % 128 + 128 * hv (l.drop (k + 1))) := fun k h hk => by
          have hkl : k < l.length := by rw [HLL.out]; omega
          have h2 := hv_step (l := l) (k := k) (by rw [← HM.out]; exact hk) hkl
          have e : l[k] = s[at_ + k] := by simp only [HL.out, List.getElem_drop]; rfl
          rwa [e] at h2
        have HLAST : Hid (hv (l.drop m) = s[at_ + m].toNat % 128) := by
          have h2 := hv_last hml
          have e : l[lead l] = s[at_ + m] := by simp only [HL.out, List.getElem_drop, HM.out]; rfl
          rw [e, ← HM.out] at h2
          exact h2
        have HB := Lib.hid hb.out
        clear hml c0 c1 c2 f1 f2
        go_loopg [4, 5] (m + 1) (fun gh s4 s5 wr => ∃ k u : Nat, k ≤ m + 1 ∧ gh = k ∧ s5 = .int .i64 ((k : Int) - 1) ∧ s4 = .int .u64 u ∧ Hid (u < 18446744073709551616) ∧ Hid (u = (if k = m + 1 then 0 else hv (l.drop k)) % 18446744073709551616) ∧ Hid (wr.heap[g]? = some (.cells #[.string s, .int .i64 at_, .bool false] 61 (0, 0))) ∧ Hid (Step (fun k => k = g) w wr))
        case atStart => exact ⟨m + 1, 0, by omega, rfl, by congr 1; omega, rfl, (show 0 < 18446744073709551616 by omega), (show 0 = _ by simp), hb.out, hst.out.drewN nq⟩
        case round =>
          obtain ⟨k, u, hk, rfl, rfl, rfl, hu, huv, hb2, hst2⟩ := hrel
          obtain ⟨c0, c1, c2, f1, f2⟩ := cell3 hb2.out
          match gk, hk, huv with
          | 0, hk, huv =>
            have HV := Lib.hid (show u = hv l % 18446744073709551616 by have := huv.out; rw [if_neg (by omega)] at this; exact this)
            clear huv
            have hneg : ((0 : Nat) : Int) - 1 < 0 := by omega
            have hto : ((at_ : Int) + (m : Int)).toNat = at_ + m := by omega
            have h0z : 0 ≤ (at_ : Int) + (m : Int) := by omega
            have HC : Hid (lastB l = s[at_ + m].toNat) := by
              show _ = _
              have hml : lead l < l.length := by rw [← HM.out, HLL.out]; omega
              have e : l[lead l] = s[at_ + m] := by simp only [HL.out, List.getElem_drop, HM.out]; rfl
              unfold lastB
              rw [List.getD_eq_getElem?_getD, List.getElem?_eq_getElem hml]
              exact congrArg UInt8.toNat e
            obtain ⟨c, hc⟩ : ∃ c, s[at_ + m] = c := ⟨_, rfl⟩
            rw [hc] at HC
            have hcl := c.toNat_lt
            have HLM : Hid (¬ (l.length ≤ lead l ∨ 9 < lead l)) := by
              show ¬ _
              rw [← HM.out, HLL.out]; omega
            by_cases hbad : (m = 9 ∧ 1 < c.toNat) ∨ (0 < m ∧ c.toNat = 0)
            · have HN := Lib.hid (show rI s.data.toList (some at_) = (0, none) by
                unfold rI
                simp only [← HL.out, HDEC.out]
                rw [if_neg HLM.out, if_pos (by rw [← HM.out, HC.out]; exact hbad)])
              clear HDEC
              rcases hbad with ⟨hm9, hc1⟩ | ⟨hm0, hc0⟩
              · have hb1 : ((m : Int) == 9) = true := by rw [hm9]; rfl
                have hq2 : 1 < (c.toNat : Int) := by omega
                clear hm9
                go_wp2_with fail
                go_quiet (fail)
                go_wp2
                go_ret
                rw [HN.out]
                exact ⟨rfl, IsQ.at_ hst2.out H4.out (((Step.refl _ wr).drewN _).set1 2 _) (set3_2 (w := wr.drewN _) hb2.out) h2 (fun _ h => by cases h)⟩
              · have hq1 : 0 < (m : Int) := by omega
                have hq2 : ((c.toNat : Int) == 0) = true := by rw [beq_iff_eq]; omega
                have hq3 : (c.toNat : Int) ≤ 1 := by omega
                obtain ⟨b, hb9⟩ : ∃ b, ((m : Int) == 9) = b := ⟨_, rfl⟩
                cases b
                all_goals
                  go_wp2_with fail
                  go_quiet (fail)
                  go_wp2
                all_goals
                  go_ret
                  rw [HN.out]
                  exact ⟨rfl, IsQ.at_ hst2.out H4.out (((Step.refl _ wr).drewN _).set1 2 _) (set3_2 (w := wr.drewN _) hb2.out) h2 (fun _ h => by cases h)⟩
            · have hbd := hv_bound HLM.out (by rw [← HM.out, HC.out]; exact hbad)
              have HG := Lib.hid (show rI s.data.toList (some at_) = (zag (hv l), some (at_ + (m + 1))) by
                unfold rI
                simp only [← HL.out, HDEC.out]
                rw [if_neg HLM.out, if_neg (by rw [← HM.out, HC.out]; exact hbad), ← HM.out])
              have HUV := Lib.hid (show u = hv l by rw [HV.out]; exact Nat.mod_eq_of_lt hbd)
              clear HDEC hbd
              obtain ⟨b, hb9⟩ : ∃ b, ((m : Int) == 9) = b := ⟨_, rfl⟩
              have HUL := hu.out
              by_cases hm0 : m = 0
              · have hq1 : (m : Int) ≤ 0 := by omega
                have hq2 : decide (0 < (m : Int)) = false := by simp; omega
                have hq3 : ((m : Int) == 9) = false := by rw [beq_eq_false_iff_ne]; omega
                clear hb9 hm0
                go_wp2_with fail
                go_quiet (fail)
                go_wp2_with fail
                refine (ref_signed u _ HUL).mono ?_
                rintro e w5 ⟨rfl, rfl⟩
                go_wp2
                go_ret
                rw [HG.out, ← HUV.out]
                exact ⟨rfl, IsQ.at_ hst2.out H4.out (((Step.refl _ wr).drewN _).set1 1 _) (at_ := at_ + (m + 1)) (by rw [show ((at_ + (m + 1) : Nat) : Int) = (at_ : Int) + (m : Int) + 1 by omega]; exact set3_1 (w := wr.drewN _) hb2.out) (by omega) (fun _ h => by injection h)⟩
              · have hq1 : 0 < (m : Int) := by omega
                have hq2 : ((c.toNat : Int) == 0) = false := by rw [beq_eq_false_iff_ne]; omega
                have hq4 : b = true → (c.toNat : Int) ≤ 1 := fun hb => by
                  rw [hb, beq_iff_eq] at hb9
                  omega
                cases b
                · clear hq4 hbad hm0
                  go_wp2_with fail
                  go_quiet (fail)
                  go_wp2_with fail
                  refine (ref_signed u _ HUL).mono ?_
                  rintro e w5 ⟨rfl, rfl⟩
                  go_wp2
                  go_ret
                  rw [HG.out, ← HUV.out]
                  exact ⟨rfl, IsQ.at_ hst2.out H4.out (((Step.refl _ wr).drewN _).set1 1 _) (at_ := at_ + (m + 1)) (by rw [show ((at_ + (m + 1) : Nat) : Int) = (at_ : Int) + (m : Int) + 1 by omega]; exact set3_1 (w := wr.drewN _) hb2.out) (by omega) (fun _ h => by injection h)⟩
                · have hq5 := hq4 rfl
                  clear hq4 hbad hm0
                  go_wp2_with fail
                  go_quiet (fail)
                  go_wp2_with fail
                  refine (ref_signed u _ HUL).mono ?_
                  rintro e w5 ⟨rfl, rfl⟩
                  go_wp2
                  go_ret
                  rw [HG.out, ← HUV.out]
                  exact ⟨rfl, IsQ.at_ hst2.out H4.out (((Step.refl _ wr).drewN _).set1 1 _) (at_ := at_ + (m + 1)) (by rw [show ((at_ + (m + 1) : Nat) : Int) = (at_ : Int) + (m : Int) + 1 by omega]; exact set3_1 (w := wr.drewN _) hb2.out) (by omega) (fun _ h => by injection h)⟩
          | j + 1, hk, huv =>
            have hjm : at_ + j < s.size := by omega
            have hjz : (at_ : Int) + (j : Int) < (s.size : Int) := by omega
            have h0z : 0 ≤ (at_ : Int) + (j : Int) := by omega
            have hto : ((at_ : Int) + (j : Int)).toNat = at_ + j := by omega
            have hj1 : ((j + 1 : Nat) : Int) - 1 = (j : Int) := by omega
            have hj0 : 0 ≤ (j : Int) := by omega
            have HNEW : Hid ((u * 128 + s[at_ + j].toNat % 128) % 18446744073709551616 = (if j = m + 1 then 0 else hv (l.drop j)) % 18446744073709551616) := by
              show _ = _
              rw [if_neg (by omega)]
              have h := huv.out
              by_cases hjm2 : j = m
              · subst hjm2
                rw [if_pos rfl] at h
                rw [HLAST.out, h]
                simp
              · rw [if_neg (by omega)] at h
                rw [HSTEP.out j hjm (by omega), h]
                omega
            rw [hj1]
            generalize hc : s[at_ + j] = c at *
            have hcl := c.toNat_lt
            clear huv hj1
            go_wp2_with fail
            go_quiet (fail)
            go_wp2
            go_roundg j
            case measure => omega
            case rel =>
              refine ⟨j, (u * 128 + c.toNat % 128) % 18446744073709551616, by omega, rfl, by go_num, ?_, ?_, HNEW.out, hb2.out, hst2.out.drewN _⟩
              · refine congrArg (Value.int IntKind.u64) ?_
                rw [wrapU, wrapU]
                omega
              · exact Nat.mod_lt _ (by omega)

end Go.Proofs.Ytkifcmlehiidiaa
