/- The walks of the reference's Str, Bool and Many. -/
import Derived.Test.YtkifcmlehiidiaaRefR
namespace Go.Proofs.Ytkifcmlehiidiaa
open Go.RowKit
set_option linter.unusedVariables false

theorem refr_int (g : Nat) (s : ByteArray) (st : Option Nat) (S : Nat → Prop) (w : World) (h : IsQ g s st S w) (hs : s.size ≤ 9223372036854775000) :
    Calls Try.prog 28 #[.pointer (some ⟨g, 0, none⟩)] w fun e w' => e = .returned (.int .i64 (rI s.data.toList st).1) ∧ Upd S (IsQ g s (rI s.data.toList st).2) w w' := by
  cases st with
  | none =>
    refine (refr_int_bad g s S w h).mono ?_
    rintro e w' ⟨rfl, rfl⟩
    exact ⟨rfl, Upd.refl h⟩
  | some a => exact refr_int_good g s a S w h hs
theorem IsQ.upd {g : Nat} {s : ByteArray} {st st' : Option Nat} {S S1 : Nat → Prop} {w0 w w' : World} (hU : Upd S (IsQ g s st) w0 w) (h1 : IsQ g s st S1 w) (hS1 : ∀ k, S1 k → S k ∨ w0.heap.size ≤ k) (hst : Step S w0 w) (hs : Step (fun k => k = g) w w')
    {at_ : Nat} (h : w'.heap[g]? = some (.cells #[.string s, .int .i64 at_, .bool st'.isNone] 61 (0, 0))) (hle : at_ ≤ s.size) (ha : ∀ a, st' = some a → at_ = a) : Upd S (IsQ g s st') w0 w' := by
  have h1' := h1
  obtain ⟨_, _, _, _, h4⟩ := h1'
  exact Upd.trans' hU h1 hst hS1 (IsQ.at_ (Step.refl _ w) h4 hs h hle ha)

set_option maxHeartbeats 2000000 in
set_option maxRecDepth 100000 in
theorem refr_bool (g : Nat) (s : ByteArray) (st : Option Nat) (S : Nat → Prop) (w : World) (h : IsQ g s st S w) (hs : s.size ≤ 9223372036854775000) :
    Calls Try.prog 32 #[.pointer (some ⟨g, 0, none⟩)] w fun e w' => e = .returned (.bool (rB s.data.toList st).1) ∧ Upd S (IsQ g s (rB s.data.toList st).2) w w' := by
  have hr := refr_int g s st S w h hs
  unfold rB
  generalize rI s.data.toList st = r at *
  obtain ⟨n, st1⟩ := r
  clear h
  by_cases h01 : n = 0 ∨ n = 1
  · have HP : Hid ((if n = 0 ∨ n = 1 then st1 else none) = st1) := if_pos h01
    rcases h01 with rfl | rfl
    · go_enter Try.func32, Try.ntmps32
      go_wp2_with fail
      refine hr.mono ?_
      rintro e w1 ⟨rfl, hu⟩
      have HU := Lib.hid hu
      clear hr hu
      go_wp2
      go_ret
      exact ⟨rfl, HU.out⟩
    · go_enter Try.func32, Try.ntmps32
      go_wp2_with fail
      refine hr.mono ?_
      rintro e w1 ⟨rfl, hu⟩
      have HU := Lib.hid hu
      clear hr hu
      go_wp2
      go_ret
      exact ⟨rfl, HU.out⟩
  · have HP : Hid ((if n = 0 ∨ n = 1 then st1 else none) = none) := if_neg h01
    have e0 : (n == 0) = false := by rw [beq_eq_false_iff_ne]; omega
    have e1 : (n == 1) = false := by rw [beq_eq_false_iff_ne]; omega
    have e2 : (n != 0) = true := by simp [bne, e0]
    have e3 : (n != 1) = true := by simp [bne, e1]
    go_enter Try.func32, Try.ntmps32
    go_wp2_with fail
    refine hr.mono ?_
    rintro e w1 ⟨rfl, hu⟩
    have HU := Lib.hid hu
    obtain ⟨S1, h1, hst, hsub⟩ := hu
    have H1 := Lib.hid h1
    have HST := Lib.hid hst
    have HSB := Lib.hid hsub
    obtain ⟨a, hb, hle, _, _⟩ := h1
    have HB := Lib.hid hb
    obtain ⟨c0, c1, c2, f1, f2⟩ := cell3 hb
    clear hr hb hst hsub
    go_wp2
    go_ret
    exact ⟨rfl, IsQ.upd HU.out H1.out HSB.out HST.out ((Step.refl _ w1).set1 2 _) (set3_2 HB.out) hle (fun _ h => by cases h)⟩

set_option maxHeartbeats 2000000 in
set_option maxRecDepth 100000 in
theorem refr_many (g : Nat) (s : ByteArray) (bound : Int) (st : Option Nat) (S : Nat → Prop) (w : World) (h : IsQ g s st S w) (hs : s.size ≤ 9223372036854775000) :
    Calls Try.prog 34 #[.pointer (some ⟨g, 0, none⟩), .int .i64 bound] w fun e w' => e = .returned (.int .i64 (rM s.data.toList bound st).1) ∧ Upd S (IsQ g s (rM s.data.toList bound st).2) w w' := by
  rcases hr0 : rI s.data.toList st with ⟨n, st1⟩
  have hr := refr_int g s st S w h hs
  rw [hr0] at hr
  have hrg := rI_range (l := s.data.toList) (st := st)
  rw [hr0] at hrg
  have hn0 : st1 = none → n = 0 := fun h0 => by
    subst h0
    unfold rI at hr0
    split at hr0
    · simp at hr0; exact hr0.symm
    · split at hr0 <;> simp at hr0
      exact hr0.symm
  obtain ⟨res, hres⟩ : ∃ res, rM s.data.toList bound st = res := ⟨_, rfl⟩
  unfold rM at hres
  rw [hr0] at hres
  have hgoal : rM s.data.toList bound st = res := by unfold rM; rw [hr0]; exact hres
  rw [hgoal]
  clear hgoal hr0 h
  have HRES := Lib.hid hres
  clear hres
  go_enter Try.func34, Try.ntmps34
  go_wp2_with fail
  refine hr.mono ?_
  rintro e w1 ⟨rfl, hu⟩
  have HU := Lib.hid hu
  obtain ⟨S1, h1, hst, hsub⟩ := hu
  have H1 := Lib.hid h1
  have HST := Lib.hid hst
  have HSB := Lib.hid hsub
  obtain ⟨a, hb, hle, ha, _⟩ := h1
  have HB := Lib.hid hb
  have HA := Lib.hid ha
  obtain ⟨c0, c1, c2, f1, f2⟩ := cell3 hb
  clear hr hb hst hsub ha
  have hcase : (n < 0) ∨ (0 ≤ n ∧ bound < n) ∨ (0 ≤ n ∧ n ≤ bound ∧ (s.size : Int) - a < n) ∨ (0 ≤ n ∧ n ≤ bound ∧ n ≤ (s.size : Int) - a) := by omega
  have HBAD : Hid ((n < 0 ∨ bound < n ∨ (s.size : Int) - a < n) → res = (0, none)) := fun hbd => by
    cases st1 with
    | none => exact HRES.out.symm
    | some b =>
      have e : a = b := HA.out b rfl
      subst e
      rw [← HRES.out]
      dsimp only
      rw [if_pos (by rw [ba_len]; exact hbd)]
  have HGOOD : Hid (¬ (n < 0 ∨ bound < n ∨ (s.size : Int) - a < n) → res = (n, st1)) := fun hbd => by
    cases st1 with
    | none =>
      rw [← HRES.out, hn0 rfl]
    | some b =>
      have e : a = b := HA.out b rfl
      subst e
      rw [← HRES.out]
      dsimp only
      rw [if_neg (by rw [ba_len]; exact hbd)]
  clear hn0 hrg
  have k1 : IntKind.i64.wrap ((s.size : Int) - (a : Int)) = (s.size : Int) - (a : Int) := IntWalk.i64_in _ (by omega)
  rcases hcase with hn | ⟨hn, hn2⟩ | ⟨hn, hn2, hn3⟩ | ⟨hn, hn2, hn3⟩
  · have HB1 := Lib.hid (HBAD.out (.inl hn))
    have hd : decide (n < 0) = true := by simpa using hn
    clear HBAD HGOOD
    go_wp2_with fail
    go_quiet (fail)
    go_wp2
    go_ret
    rw [HB1.out]
    exact ⟨rfl, IsQ.upd HU.out H1.out HSB.out HST.out (((Step.refl _ w1).drewN nq).set1 2 _) (set3_2 (w := w1.drewN nq) HB.out) hle (fun _ h => by cases h)⟩
  · have HB1 := Lib.hid (HBAD.out (.inr (.inl hn2)))
    have hd : decide (n < 0) = false := by simpa using hn
    have hd2 : decide (bound < n) = true := by simpa using hn2
    clear HBAD HGOOD
    go_wp2_with fail
    go_quiet (fail)
    go_wp2
    go_ret
    rw [HB1.out]
    exact ⟨rfl, IsQ.upd HU.out H1.out HSB.out HST.out (((Step.refl _ w1).drewN nq).set1 2 _) (set3_2 (w := w1.drewN nq) HB.out) hle (fun _ h => by cases h)⟩
  · have HB1 := Lib.hid (HBAD.out (.inr (.inr hn3)))
    have hd : decide (n < 0) = false := by simpa using hn
    have hd2 : decide (bound < n) = false := by simpa using hn2
    have hd3 : decide ((s.size : Int) - (a : Int) < n) = true := by simpa using hn3
    clear HBAD HGOOD
    go_wp2_with fail
    go_quiet (fail)
    go_wp2
    go_ret
    rw [HB1.out]
    exact ⟨rfl, IsQ.upd HU.out H1.out HSB.out HST.out (((Step.refl _ w1).drewN nq).set1 2 _) (set3_2 (w := w1.drewN nq) HB.out) hle (fun _ h => by cases h)⟩
  · have HB1 := Lib.hid (HGOOD.out (by omega))
    have hd : decide (n < 0) = false := by simpa using hn
    have hd2 : decide (bound < n) = false := by simpa using hn2
    have hd3 : decide ((s.size : Int) - (a : Int) < n) = false := by simpa using hn3
    clear HBAD HGOOD
    go_wp2_with fail
    go_quiet (fail)
    go_wp2
    go_ret
    rw [HB1.out]
    exact ⟨rfl, S1, H1.out, HST.out.drewN _, HSB.out⟩

set_option maxHeartbeats 2000000 in
set_option maxRecDepth 100000 in
theorem refr_str (g : Nat) (s : ByteArray) (st : Option Nat) (S : Nat → Prop) (w : World) (h : IsQ g s st S w) (hs : s.size ≤ 9223372036854775000) :
    Calls Try.prog 30 #[.pointer (some ⟨g, 0, none⟩)] w fun e w' => e = .returned (.string ⟨(rS s.data.toList st).1.toArray⟩) ∧ Upd S (IsQ g s (rS s.data.toList st).2) w w' := by
  rcases hr0 : rI s.data.toList st with ⟨n, st1⟩
  have hr := refr_int g s st S w h hs
  rw [hr0] at hr
  have hrg := rI_range (l := s.data.toList) (st := st)
  rw [hr0] at hrg
  obtain ⟨res, hres⟩ : ∃ res, rS s.data.toList st = res := ⟨_, rfl⟩
  unfold rS at hres
  rw [hr0] at hres
  have hgoal : rS s.data.toList st = res := by unfold rS; rw [hr0]; exact hres
  rw [hgoal]
  clear hgoal hr0 h
  have HRES := Lib.hid hres
  clear hres
  go_enter Try.func30, Try.ntmps30
  go_wp2_with fail
  refine hr.mono ?_
  rintro e w1 ⟨rfl, hu⟩
  have HU := Lib.hid hu
  obtain ⟨S1, h1, hst, hsub⟩ := hu
  have H1 := Lib.hid h1
  have HST := Lib.hid hst
  have HSB := Lib.hid hsub
  obtain ⟨a, hb, hle, ha, _⟩ := h1
  cases st1 with
  | none =>
    have HB := Lib.hid hb
    obtain ⟨c0, c1, c2, f1, f2⟩ := cell3 hb
    simp only [Option.isNone] at c2
    clear hr hb hst hsub ha
    have HB1 : Hid (res = ([], none)) := HRES.out.symm
    clear HRES
    go_wp2_with fail
    go_quiet (fail)
    go_wp2
    go_ret
    rw [HB1.out]
    exact ⟨rfl, IsQ.upd HU.out H1.out HSB.out HST.out (((Step.refl _ w1).drewN nq).set1 2 _) (set3_2 (w := w1.drewN nq) HB.out) hle (fun _ h => by cases h)⟩
  | some b =>
    obtain rfl := ha b rfl
    have HB := Lib.hid hb
    obtain ⟨c0, c1, c2, f1, f2⟩ := cell3 hb
    simp only [Option.isNone] at c2
    clear hr hb hst hsub ha
    have k1 : IntKind.i64.wrap ((s.size : Int) - (a : Int)) = (s.size : Int) - (a : Int) := IntWalk.i64_in _ (by omega)
    rcases (show n < 0 ∨ (0 ≤ n ∧ (s.size : Int) - a < n) ∨ (0 ≤ n ∧ n ≤ (s.size : Int) - a) by omega) with hn | ⟨hn, hn3⟩ | ⟨hn, hn3⟩
    · have HB1 : Hid (res = ([], none)) := by show _ = _; rw [← HRES.out]; dsimp only; rw [if_pos (.inl hn)]
      have hd : decide (n < 0) = true := by simpa using hn
      clear HRES
      go_wp2_with fail
      go_quiet (fail)
      go_wp2
      go_ret
      rw [HB1.out]
      exact ⟨rfl, IsQ.upd HU.out H1.out HSB.out HST.out (((Step.refl _ w1).drewN nq).set1 2 _) (set3_2 (w := w1.drewN nq) HB.out) hle (fun _ h => by cases h)⟩
    · have HB1 : Hid (res = ([], none)) := by show _ = _; rw [← HRES.out]; dsimp only; rw [if_pos (.inr (by rw [ba_len]; exact hn3))]
      have hd : decide (n < 0) = false := by simpa using hn
      have hd3 : decide ((s.size : Int) - (a : Int) < n) = true := by simpa using hn3
      clear HRES
      go_wp2_with fail
      go_quiet (fail)
      go_wp2
      go_ret
      rw [HB1.out]
      exact ⟨rfl, IsQ.upd HU.out H1.out HSB.out HST.out (((Step.refl _ w1).drewN nq).set1 2 _) (set3_2 (w := w1.drewN nq) HB.out) hle (fun _ h => by cases h)⟩
    · obtain ⟨k, rfl⟩ := Int.eq_ofNat_of_zero_le hn
      have HB1 : Hid (res = ((s.data.toList.drop a).take k, some (a + k))) := by show _ = _; rw [← HRES.out]; dsimp only; rw [if_neg (by rw [ba_len]; omega), Int.toNat_natCast]
      have hd : decide ((k : Int) < 0) = false := by simp
      have hd3 : decide ((s.size : Int) - (a : Int) < (k : Int)) = false := by simpa using hn3
      have hak : a + k ≤ s.size := by omega
      clear HRES
      go_wp2_with fail
      go_quiet (fail)
      clear k1 hd hd3
      have k2 : IntKind.i64.wrap ((a : Int) + (k : Int) - (k : Int)) = (a : Int) := by rw [show (a : Int) + (k : Int) - (k : Int) = (a : Int) by omega]; exact IntWalk.i64_in _ (by omega)
      have k3 : ((a : Int) + (k : Int)).toNat = a + k := by omega
      have k4 : 0 ≤ (a : Int) + (k : Int) := by omega
      have k5 : (a : Int) + (k : Int) ≤ (s.size : Int) := by omega
      have k6 : (a : Int) ≤ (a : Int) + (k : Int) := by omega
      go_wp2_with fail
      have hset : ((w1.drewN nq).setCell ⟨g, 1, none⟩ (.int .i64 ((a : Int) + (k : Int)))).heap[g]? = some (.cells #[.string s, .int .i64 ((a : Int) + (k : Int)), .bool false] 61 (0, 0)) := set3_1 (w := w1.drewN nq) HB.out
      have hsw : Step (fun k => k = g) w1 ((w1.drewN nq).setCell ⟨g, 1, none⟩ (.int .i64 ((a : Int) + (k : Int)))) := ((Step.refl _ w1).drewN nq).set1 1 _
      clear c0 c1 c2 f1 f2
      generalize (w1.drewN nq).setCell ⟨g, 1, none⟩ (.int .i64 ((a : Int) + (k : Int))) = w2 at hset hsw ⊢
      obtain ⟨c0, c1, c2, f1, f2⟩ := cell3 hset
      have HSET := Lib.hid hset
      have HSW := Lib.hid hsw
      clear hset hsw
      go_quiet (fail)
      go_wp2
      go_ret
      rw [HB1.out]
      refine ⟨ret_str (ba_ext ?_), IsQ.upd (st' := some (a + k)) HU.out H1.out HSB.out HST.out (HSW.out.drewN _) (at_ := a + k) (by rw [Int.natCast_add]; exact HSET.out) hak (fun _ h => by injection h)⟩
      rw [Lib.extract_data]
      simp

end Go.Proofs.Ytkifcmlehiidiaa
