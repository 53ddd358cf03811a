/- The walks of pack.Reader: Str, Bool, Many, End. -/
import Derived.Test.YtkifcmlehiidiaaPackR
namespace Go.Proofs.Ytkifcmlehiidiaa
open Go.RowKit
set_option linter.unusedVariables false

theorem IsR.upd {g : Nat} {s : ByteArray} {st : Option Nat} {S : Nat → Prop} {w w' : World} (h : IsR g s st S w) (hf : Fr w w') : Upd S (IsR g s st) w w' :=
  ⟨S, (IsR.local g s st).keep _ _ _ h (fun k hk => hf.block k ((IsR.local g s st).lt _ _ _ h hk)), Step.of_fr hf, fun _ h => .inl h⟩

theorem reader_int (g : Nat) (s : ByteArray) (st : Option Nat) (S : Nat → Prop) (w : World) (h : IsR g s st S w) (hs : s.size ≤ 9223372036854775000) :
    Calls Try.prog 26 #[.pointer (some ⟨g, 0, none⟩)] w fun e w' => e = .returned (.int .i64 (rI s.data.toList st).1) ∧ Upd S (IsR g s (rI s.data.toList st).2) w w' := by
  cases st with
  | none =>
    refine (reader_int_bad g s S w h).mono ?_
    rintro e w' ⟨rfl, rfl⟩
    exact ⟨rfl, Upd.refl h⟩
  | some a => exact reader_int_good g s a S w h hs

theorem rI_le {l : List UInt8} {a b : Nat} {n : Int} (h : rI l (some a) = (n, some b)) (ha : a ≤ l.length) : a ≤ b ∧ b ≤ l.length := by
  cases hd : decI (l.drop a) with
  | none => simp [rI, hd] at h
  | some p =>
    obtain ⟨m, k⟩ := p
    simp only [rI, hd, Prod.mk.injEq, Option.some.injEq] at h
    obtain ⟨rest, h1, h2, _⟩ := decI_put hd
    have h3 := congrArg List.length h1
    rw [List.length_drop, List.length_append] at h3
    omega
theorem rI_range {l : List UInt8} {st : Option Nat} : -9223372036854775808 ≤ (rI l st).1 ∧ (rI l st).1 ≤ 9223372036854775807 := by
  cases st with
  | none => simp [rI]
  | some a =>
    cases hd : decI (l.drop a) with
    | none => simp [rI, hd]
    | some p =>
      obtain ⟨m, k⟩ := p
      obtain ⟨rest, h1, h2, h3, h4⟩ := decI_put hd
      simp only [rI, hd]
      exact ⟨h3, h4⟩

/-- What End tells: 0, or ErrForm. -/
def rEnd (l : List UInt8) (st : Option Nat) : Int := if st = some l.length then 0 else 4
set_option maxHeartbeats 400000 in
theorem reader_end_nil (w : World) :
    Calls Try.prog 27 #[.pointer none] w fun e w' => e = .returned (.int .i64 2) ∧ w = w' := by
  go_enter Try.func27, Try.ntmps27
  go_wp2
  go_ret
  exact ⟨rfl, rfl⟩
set_option maxHeartbeats 1000000 in
theorem reader_end (g : Nat) (s : ByteArray) (st : Option Nat) (S : Nat → Prop) (w : World) (h : IsR g s st S w) (hs : s.size ≤ 9223372036854775000) :
    Calls Try.prog 27 #[.pointer (some ⟨g, 0, none⟩)] w fun e w' => e = .returned (.int .i64 (rEnd s.data.toList st)) ∧ Fr w w' := by
  obtain ⟨at_, h1, h2, h3⟩ := h
  obtain ⟨c0, c1, c2, f1, f2⟩ := cell3 h1
  clear h1 h3
  cases st with
  | none =>
    simp only [Option.isNone] at c2
    clear h2
    go_enter Try.func27, Try.ntmps27
    go_wp2
    go_quiet (fail)
    go_wp2
    go_ret
    exact ⟨rfl, (Fr.refl w).drewN _⟩
  | some a =>
    simp only [Option.isNone] at c2
    obtain ⟨rfl, ha⟩ := h2 a rfl
    clear h2
    by_cases he : a = s.size
    · have hn : ((a : Int) != (s.size : Int)) = false := by rw [he]; simp
      have HE := Lib.hid (show rEnd s.data.toList (some a) = 0 by rw [rEnd, if_pos (by rw [he, ba_len])])
      clear he
      go_enter Try.func27, Try.ntmps27
      go_wp2
      go_quiet (fail)
      go_wp2
      go_ret
      rw [HE.out]
      exact ⟨rfl, (Fr.refl w).drewN _⟩
    · have hn : ((a : Int) != (s.size : Int)) = true := by rw [bne_iff_ne]; omega
      have HE := Lib.hid (show rEnd s.data.toList (some a) = 4 by rw [rEnd, if_neg (by rw [ba_len]; intro h; injection h with h; exact he h)])
      clear he
      go_enter Try.func27, Try.ntmps27
      go_wp2
      go_quiet (fail)
      go_wp2
      go_ret
      rw [HE.out]
      exact ⟨rfl, (Fr.refl w).drewN _⟩

/-- What Bool comes to. -/
def rB (l : List UInt8) (st : Option Nat) : Bool × Option Nat :=
  let r := rI l st
  (r.1 == 1, if r.1 = 0 ∨ r.1 = 1 then r.2 else none)
set_option maxHeartbeats 400000 in
theorem reader_bool_nil (w : World) :
    Calls Try.prog 31 #[.pointer none] w fun e w' => e = .returned (.bool false) ∧ w = w' := by
  go_enter Try.func31, Try.ntmps31
  go_wp2_with fail
  refine (reader_int_nil _).mono ?_
  rintro e w' ⟨rfl, rfl⟩
  go_wp2
  go_ret
  exact ⟨rfl, rfl⟩
theorem reader_fail_upd (g : Nat) (s : ByteArray) (st : Option Nat) (S : Nat → Prop) (w : World) (h : IsR g s st S w) :
    Calls Try.prog 41 #[.pointer (some ⟨g, 0, none⟩)] w fun e w' => e = .returned (.int .i64 0) ∧ Upd S (IsR g s none) w w' := by
  obtain ⟨at_, h1, h2, h3⟩ := h
  refine (reader_fail g _ _ _ w h1).mono ?_
  rintro e w' ⟨rfl, rfl⟩
  exact ⟨rfl, IsR.at_ (Step.refl _ w) h3 ((Step.refl _ w).set1 2 _) (set3_2 h1) (fun _ h => by cases h)⟩
set_option maxHeartbeats 1000000 in
theorem reader_bool (g : Nat) (s : ByteArray) (st : Option Nat) (S : Nat → Prop) (w : World) (h : IsR g s st S w) (hs : s.size ≤ 9223372036854775000) :
    Calls Try.prog 31 #[.pointer (some ⟨g, 0, none⟩)] w fun e w' => e = .returned (.bool (rB s.data.toList st).1) ∧ Upd S (IsR g s (rB s.data.toList st).2) w w' := by
  have H := Lib.hid h
  have hr := reader_int g s st S w h hs
  unfold rB
  generalize rI s.data.toList st = r at *
  obtain ⟨n, st1⟩ := r
  clear h
  by_cases h0 : n = 0
  · subst h0
    go_enter Try.func31, Try.ntmps31
    go_wp2_with fail
    refine hr.mono ?_
    rintro e w' ⟨rfl, hu⟩
    have HU := Lib.hid hu
    clear hu hr
    go_wp2
    go_ret
    exact ⟨rfl, HU.out⟩
  · by_cases h1 : n = 1
    · subst h1
      go_enter Try.func31, Try.ntmps31
      go_wp2_with fail
      refine hr.mono ?_
      rintro e w' ⟨rfl, hu⟩
      have HU := Lib.hid hu
      clear hu hr
      go_wp2
      go_ret
      exact ⟨rfl, HU.out⟩
    · have hn0 : (n != 0) = true := by rw [bne_iff_ne]; exact h0
      have hn1 : (n != 1) = true := by rw [bne_iff_ne]; exact h1
      have hn2 : (n == 1) = false := by rw [beq_eq_false_iff_ne]; exact h1
      have HN := Lib.hid (show ¬ (n = 0 ∨ n = 1) by omega)
      clear h0 h1
      go_enter Try.func31, Try.ntmps31
      go_wp2_with fail
      refine hr.mono ?_
      rintro e w' ⟨rfl, hu⟩
      obtain ⟨S1, hR, hst, hsub⟩ := hu
      have HR := Lib.hid hR
      clear hR hr
      go_wp2_with fail
      refine (reader_fail_upd g s st1 S1 _ HR.out).mono ?_
      rintro e w2 ⟨rfl, hu2⟩
      have HU := Lib.hid hu2
      clear hu2
      go_wp2
      go_ret
      exact ⟨rfl, Upd.trans' ⟨S1, HR.out, hst, hsub⟩ HR.out hst hsub HU.out⟩

/-- What Str comes to. -/
def rS (l : List UInt8) (st : Option Nat) : List UInt8 × Option Nat :=
  match rI l st with
  | (_, none) => ([], none)
  | (n, some a) => if n < 0 ∨ (l.length : Int) - a < n then ([], none) else ((l.drop a).take n.toNat, some (a + n.toNat))
set_option maxHeartbeats 400000 in
theorem reader_str_nil (w : World) :
    Calls Try.prog 29 #[.pointer none] w fun e w' => e = .returned (.string ⟨#[]⟩) ∧ w = w' := by
  go_enter Try.func29, Try.ntmps29
  go_wp2_with fail
  refine (reader_int_nil _).mono ?_
  rintro e w' ⟨rfl, rfl⟩
  go_wp2
  go_ret
  exact ⟨rfl, rfl⟩
set_option maxHeartbeats 1000000 in
set_option maxRecDepth 100000 in
theorem reader_str (g : Nat) (s : ByteArray) (st : Option Nat) (S : Nat → Prop) (w : World) (h : IsR g s st S w) (hs : s.size ≤ 9223372036854775000) :
    Calls Try.prog 29 #[.pointer (some ⟨g, 0, none⟩)] w fun e w' => e = .returned (.string ⟨(rS s.data.toList st).1.toArray⟩) ∧ Upd S (IsR g s (rS s.data.toList st).2) w w' := by
  rcases hr0 : rI s.data.toList st with ⟨n, st1⟩
  have hr := reader_int g s st S w h hs
  rw [hr0] at hr
  have hrg := rI_range (l := s.data.toList) (st := st)
  rw [hr0] at hrg
  cases st1 with
  | none =>
    have HF := Lib.hid (show rS s.data.toList st = ([], none) by simp [rS, hr0])
    clear h hr0
    go_enter Try.func29, Try.ntmps29
    go_wp2_with fail
    refine hr.mono ?_
    rintro e w' ⟨rfl, hu⟩
    obtain ⟨S1, hR, hst, hsub⟩ := hu
    have HU := Lib.hid (show Upd S (IsR g s none) w w' from ⟨S1, hR, hst, hsub⟩)
    obtain ⟨a1, h1, _, _⟩ := hR
    obtain ⟨c0, c1, c2, f1, f2⟩ := cell3 h1
    simp only [Option.isNone] at c2
    clear h1 hr
    go_wp2
    go_ret
    rw [HF.out]
    exact ⟨rfl, HU.out⟩
  | some a =>
    by_cases hb : n < 0 ∨ (s.size : Int) - a < n
    · have HF := Lib.hid (show rS s.data.toList st = ([], none) by simp only [rS, hr0, ba_len, if_pos hb])
      have hcase : (n < 0) ∨ (0 ≤ n ∧ (s.size : Int) - a < n) := by omega
      clear hb h hr0
      rcases hcase with hn | ⟨hn, hn2⟩
      · have hd : decide (n < 0) = true := by simpa using hn
        go_enter Try.func29, Try.ntmps29
        go_wp2_with fail
        refine hr.mono ?_
        rintro e w' ⟨rfl, hu⟩
        obtain ⟨S1, hR, hst, hsub⟩ := hu
        have HR := Lib.hid hR
        obtain ⟨a1, h1, h2, h3⟩ := hR
        obtain ⟨rfl, ha⟩ := h2 a rfl
        obtain ⟨c0, c1, c2, f1, f2⟩ := cell3 h1
        simp only [Option.isNone] at c2
        have H1 := Lib.hid h1
        have H3 := Lib.hid h3
        clear h1 hr h2 h3
        go_wp2_with fail
        go_quiet (fail)
        go_wp2_with fail
        refine (reader_fail_upd g s (some a) S1 (w'.drewN nq) HR.out).mono ?_
        rintro e w2 ⟨rfl, hu2⟩
        have HU := Lib.hid hu2
        clear hu2
        go_wp2
        go_ret
        rw [HF.out]
        exact ⟨rfl, Upd.trans' ⟨S1, HR.out, hst, hsub⟩ HR.out hst hsub HU.out.undrew⟩
      · have hd : decide (n < 0) = false := by simpa using hn
        go_enter Try.func29, Try.ntmps29
        go_wp2_with fail
        refine hr.mono ?_
        rintro e w' ⟨rfl, hu⟩
        obtain ⟨S1, hR, hst, hsub⟩ := hu
        have HR := Lib.hid hR
        obtain ⟨a1, h1, h2, h3⟩ := hR
        obtain ⟨rfl, ha⟩ := h2 a rfl
        obtain ⟨c0, c1, c2, f1, f2⟩ := cell3 h1
        simp only [Option.isNone] at c2
        have H1 := Lib.hid h1
        have H3 := Lib.hid h3
        clear h1 hr h2 h3
        go_wp2_with fail
        go_quiet (fail)
        go_wp2_with fail
        refine (reader_fail_upd g s (some a) S1 (w'.drewN nq) HR.out).mono ?_
        rintro e w2 ⟨rfl, hu2⟩
        have HU := Lib.hid hu2
        clear hu2
        go_wp2
        go_ret
        rw [HF.out]
        exact ⟨rfl, Upd.trans' ⟨S1, HR.out, hst, hsub⟩ HR.out hst hsub HU.out.undrew⟩
    · have HF := Lib.hid (show rS s.data.toList st = ((s.data.toList.drop a).take n.toNat, some (a + n.toNat)) by simp only [rS, hr0, ba_len, if_neg hb])
      have hn : 0 ≤ n := by omega
      have hn3 : n ≤ (s.size : Int) - a := by omega
      have hd : decide (n < 0) = false := by simpa using hn
      clear hb h hr0
      go_enter Try.func29, Try.ntmps29
      go_wp2_with fail
      refine hr.mono ?_
      rintro e w' ⟨rfl, hu⟩
      obtain ⟨S1, hR, hst, hsub⟩ := hu
      have HR := Lib.hid hR
      obtain ⟨a1, h1, h2, h3⟩ := hR
      obtain ⟨rfl, ha⟩ := h2 a rfl
      obtain ⟨c0, c1, c2, f1, f2⟩ := cell3 h1
      simp only [Option.isNone] at c2
      have H1 := Lib.hid h1
      have H3 := Lib.hid h3
      clear h1 hr h2 h3
      have ha0 : 0 ≤ (a : Int) := by omega
      have ha1 : (a : Int) ≤ (a : Int) + n := by omega
      have ha2 : (a : Int) + n ≤ s.size := by omega
      go_wp2_with fail
      go_quiet (fail)
      go_wp2_with fail
      go_quiet (fail)
      go_wp2_with fail
      go_ret
      rw [HF.out]
      obtain ⟨m, rfl⟩ := Int.eq_ofNat_of_zero_le hn
      refine ⟨ret_str (ba_ext ?_), Upd.trans' ⟨S1, HR.out, hst, hsub⟩ HR.out hst hsub (IsR.at_ (Step.refl _ w') H3.out (((Step.refl _ w').drewN _).set1 1 _) (set3_1 (w := w'.drewN _) H1.out) (fun b h => by injection h with h; omega))⟩
      rw [Lib.extract_data, Int.toNat_natCast]
      congr 1
      omega

/-- What Many comes to. -/
def rM (l : List UInt8) (bound : Int) (st : Option Nat) : Int × Option Nat :=
  match rI l st with
  | (_, none) => (0, none)
  | (n, some a) => if n < 0 ∨ bound < n ∨ (l.length : Int) - a < n then (0, none) else (n, some a)
set_option maxHeartbeats 400000 in
theorem reader_many_nil (b : Int) (w : World) :
    Calls Try.prog 33 #[.pointer none, .int .i64 b] w fun e w' => e = .returned (.int .i64 0) ∧ w = w' := by
  go_enter Try.func33, Try.ntmps33
  go_wp2_with fail
  refine (reader_int_nil _).mono ?_
  rintro e w' ⟨rfl, rfl⟩
  go_wp2
  go_ret
  exact ⟨rfl, rfl⟩
set_option maxHeartbeats 1000000 in
set_option maxRecDepth 100000 in
theorem reader_many (g : Nat) (s : ByteArray) (bound : Int) (st : Option Nat) (S : Nat → Prop) (w : World) (h : IsR g s st S w) (hs : s.size ≤ 9223372036854775000) :
    Calls Try.prog 33 #[.pointer (some ⟨g, 0, none⟩), .int .i64 bound] w fun e w' => e = .returned (.int .i64 (rM s.data.toList bound st).1) ∧ Upd S (IsR g s (rM s.data.toList bound st).2) w w' := by
  rcases hr0 : rI s.data.toList st with ⟨n, st1⟩
  have hr := reader_int g s st S w h hs
  rw [hr0] at hr
  have hrg := rI_range (l := s.data.toList) (st := st)
  rw [hr0] at hrg
  cases st1 with
  | none =>
    have HF := Lib.hid (show rM s.data.toList bound st = (0, none) by simp [rM, hr0])
    clear h hr0
    go_enter Try.func33, Try.ntmps33
    go_wp2_with fail
    refine hr.mono ?_
    rintro e w' ⟨rfl, hu⟩
    obtain ⟨S1, hR, hst, hsub⟩ := hu
    have HU := Lib.hid (show Upd S (IsR g s none) w w' from ⟨S1, hR, hst, hsub⟩)
    obtain ⟨a1, h1, _, _⟩ := hR
    obtain ⟨c0, c1, c2, f1, f2⟩ := cell3 h1
    simp only [Option.isNone] at c2
    clear h1 hr
    go_wp2
    go_ret
    rw [HF.out]
    exact ⟨rfl, HU.out⟩
  | some a =>
    by_cases hb : n < 0 ∨ bound < n ∨ (s.size : Int) - a < n
    · have HF := Lib.hid (show rM s.data.toList bound st = (0, none) by simp only [rM, hr0, ba_len, if_pos hb])
      have hcase : (n < 0) ∨ (0 ≤ n ∧ bound < n) ∨ (0 ≤ n ∧ n ≤ bound ∧ (s.size : Int) - a < n) := by omega
      clear hb h hr0
      rcases hcase with hn | ⟨hn, hn2⟩ | ⟨hn, hn2, hn3⟩
      · have hd : decide (n < 0) = true := by simpa using hn
        go_enter Try.func33, Try.ntmps33
        go_wp2_with fail
        refine hr.mono ?_
        rintro e w' ⟨rfl, hu⟩
        obtain ⟨S1, hR, hst, hsub⟩ := hu
        have HR := Lib.hid hR
        obtain ⟨a1, h1, h2, h3⟩ := hR
        obtain ⟨rfl, ha⟩ := h2 a rfl
        obtain ⟨c0, c1, c2, f1, f2⟩ := cell3 h1
        simp only [Option.isNone] at c2
        clear h1 hr h2 h3
        go_wp2_with fail
        go_quiet (fail)
        go_wp2_with fail
        refine (reader_fail_upd g s (some a) S1 (w'.drewN nq) HR.out).mono ?_
        rintro e w2 ⟨rfl, hu2⟩
        have HU := Lib.hid hu2
        clear hu2
        go_wp2
        go_ret
        rw [HF.out]
        exact ⟨rfl, Upd.trans' ⟨S1, HR.out, hst, hsub⟩ HR.out hst hsub HU.out.undrew⟩
      · have hd : decide (n < 0) = false := by simpa using hn
        have hd2 : decide (bound < n) = true := by simpa using hn2
        go_enter Try.func33, Try.ntmps33
        go_wp2_with fail
        refine hr.mono ?_
        rintro e w' ⟨rfl, hu⟩
        obtain ⟨S1, hR, hst, hsub⟩ := hu
        have HR := Lib.hid hR
        obtain ⟨a1, h1, h2, h3⟩ := hR
        obtain ⟨rfl, ha⟩ := h2 a rfl
        obtain ⟨c0, c1, c2, f1, f2⟩ := cell3 h1
        simp only [Option.isNone] at c2
        clear h1 hr h2 h3
        go_wp2_with fail
        go_quiet (fail)
        go_wp2_with fail
        refine (reader_fail_upd g s (some a) S1 (w'.drewN nq) HR.out).mono ?_
        rintro e w2 ⟨rfl, hu2⟩
        have HU := Lib.hid hu2
        clear hu2
        go_wp2
        go_ret
        rw [HF.out]
        exact ⟨rfl, Upd.trans' ⟨S1, HR.out, hst, hsub⟩ HR.out hst hsub HU.out.undrew⟩
      · have hd : decide (n < 0) = false := by simpa using hn
        have hd2 : decide (bound < n) = false := by simpa using hn2
        go_enter Try.func33, Try.ntmps33
        go_wp2_with fail
        refine hr.mono ?_
        rintro e w' ⟨rfl, hu⟩
        obtain ⟨S1, hR, hst, hsub⟩ := hu
        have HR := Lib.hid hR
        obtain ⟨a1, h1, h2, h3⟩ := hR
        obtain ⟨rfl, ha⟩ := h2 a rfl
        obtain ⟨c0, c1, c2, f1, f2⟩ := cell3 h1
        simp only [Option.isNone] at c2
        clear h1 hr h2 h3
        go_wp2_with fail
        go_quiet (fail)
        go_wp2_with fail
        refine (reader_fail_upd g s (some a) S1 (w'.drewN nq) HR.out).mono ?_
        rintro e w2 ⟨rfl, hu2⟩
        have HU := Lib.hid hu2
        clear hu2
        go_wp2
        go_ret
        rw [HF.out]
        exact ⟨rfl, Upd.trans' ⟨S1, HR.out, hst, hsub⟩ HR.out hst hsub HU.out.undrew⟩
    · have HF := Lib.hid (show rM s.data.toList bound st = (n, some a) by simp only [rM, hr0, ba_len, if_neg hb])
      have hn : 0 ≤ n := by omega
      have hn2 : n ≤ bound := by omega
      have hn3 : n ≤ (s.size : Int) - a := by omega
      have hd : decide (n < 0) = false := by simpa using hn
      have hd2 : decide (bound < n) = false := by simpa using hn2
      clear hb h hr0
      go_enter Try.func33, Try.ntmps33
      go_wp2_with fail
      refine hr.mono ?_
      rintro e w' ⟨rfl, hu⟩
      obtain ⟨S1, hR, hst, hsub⟩ := hu
      have HR := Lib.hid hR
      obtain ⟨a1, h1, h2, h3⟩ := hR
      obtain ⟨rfl, ha⟩ := h2 a rfl
      obtain ⟨c0, c1, c2, f1, f2⟩ := cell3 h1
      simp only [Option.isNone] at c2
      clear h1 hr h2 h3
      go_wp2_with fail
      go_quiet (fail)
      go_wp2_with fail
      go_ret
      rw [HF.out]
      exact ⟨rfl, S1, HR.out, hst.drewN _, hsub⟩

end Go.Proofs.Ytkifcmlehiidiaa
