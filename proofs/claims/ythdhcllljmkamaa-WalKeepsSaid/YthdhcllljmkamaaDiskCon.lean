/- What the disk and its reference do, as one: the contracts over one state. -/
import Derived.Test.YthdhcllljmkamaaDiskRef
namespace Go.Proofs.Ythdhcllljmkamaa
open Go.RowKit
set_option linter.unusedVariables false

def IsD (g : Nat) (st : DSt) : Asr := IsDr g st.all st.safe.length st.size st.down st.boots
def IsM (g : Nat) (st : DSt) : Asr := fun S w => ∃ sf ls : ByteArray, sf.data.toList = st.safe ∧ ls.data.toList = st.loose ∧ IsMr g sf ls st.size st.down st.boots S w
theorem IsD.local (g : Nat) (st : DSt) : LocalA (IsD g st) := IsDr.local ..
theorem IsM.local (g : Nat) (st : DSt) : LocalA (IsM g st) := by
  refine ⟨?_, ?_⟩
  · rintro S w w' ⟨sf, ls, h1, h2, h3⟩ hk
    exact ⟨sf, ls, h1, h2, (IsMr.local ..).keep _ _ _ h3 hk⟩
  · rintro S w k ⟨sf, ls, h1, h2, h3⟩ hk
    exact (IsMr.local ..).lt _ _ _ h3 hk
theorem Upd.same {S : Nat → Prop} {A : Asr} {w w' : World} (h : A S w) (e : w = w') : Upd S A w w' := e ▸ Upd.refl h
theorem len_all (st : DSt) : st.all.length = st.safe.length + st.loose.length := by simp [DSt.all]

theorem d_append (g : Nat) (st : DSt) (s : ByteArray) (S : Nat → Prop) (w : World) (hwf : st.wf) (hs : s.size ≤ 140737488351232) (h : IsD g st S w) :
    Calls Try.prog 20 #[.pointer (some ⟨g, 0, none⟩), .string s] w fun e w' => e = .returned (.int .i64 (dAppend st s.data.toList).1) ∧ Upd S (IsD g (dAppend st s.data.toList).2) w w' := by
  obtain ⟨safe, loose, sz, dn, bo⟩ := st
  unfold DSt.wf at hwf
  cases dn with
  | true =>
    refine (disk_append_down g _ _ _ _ s S w h).mono ?_
    rintro e w' ⟨rfl, rfl⟩
    exact ⟨rfl, Upd.refl h⟩
  | false =>
    by_cases hf : sz < (DSt.all ⟨safe, loose, sz, false, bo⟩).length + s.size
    · refine (disk_append_full g _ _ _ _ s S w h (by unfold maxLen; omega) hwf.2 hwf.1 hf).mono ?_
      rintro e w' ⟨rfl, hu⟩
      have e1 : dAppend ⟨safe, loose, sz, false, bo⟩ s.data.toList = (6, ⟨safe, loose, sz, false, bo⟩) := by
        unfold dAppend; rw [if_neg (by simp), if_pos (by rw [ba_len]; exact hf)]
      rw [e1]
      exact ⟨rfl, hu⟩
    · refine (disk_append_ok g _ _ _ _ s S w h hwf.2 (by have := hwf.1; show _ ≤ sz; omega)).mono ?_
      rintro e w' ⟨rfl, hu⟩
      have e1 : dAppend ⟨safe, loose, sz, false, bo⟩ s.data.toList = (0, ⟨safe, loose ++ s.data.toList, sz, false, bo⟩) := by
        unfold dAppend; rw [if_neg (by simp), if_neg (by rw [ba_len]; exact hf)]
      rw [e1]
      refine ⟨rfl, ?_⟩
      unfold IsD DSt.all at *
      simp only [List.append_assoc] at hu
      exact hu
theorem m_append (g : Nat) (st : DSt) (s : ByteArray) (S : Nat → Prop) (w : World) (hwf : st.wf) (hs : s.size ≤ 140737488351232) (h : IsM g st S w) :
    Calls Try.prog 40 #[.pointer (some ⟨g, 0, none⟩), .string s] w fun e w' => e = .returned (.int .i64 (dAppend st s.data.toList).1) ∧ Upd S (IsM g (dAppend st s.data.toList).2) w w' := by
  obtain ⟨safe, loose, sz, dn, bo⟩ := st
  obtain ⟨sf, ls, rfl, rfl, h⟩ := h
  unfold DSt.wf at hwf
  rw [len_all] at hwf
  simp only [ba_len] at hwf
  cases dn with
  | true =>
    refine (ref_append_down g _ _ _ _ s S w h).mono ?_
    rintro e w' ⟨rfl, rfl⟩
    exact ⟨rfl, Upd.refl ⟨sf, ls, rfl, rfl, h⟩⟩
  | false =>
    by_cases hf : sz < sf.size + ls.size + s.size
    · refine (ref_append_full g _ _ _ _ s S w h hs hwf.2 hwf.1 hf).mono ?_
      rintro e w' ⟨rfl, hu⟩
      have e1 : dAppend ⟨sf.data.toList, ls.data.toList, sz, false, bo⟩ s.data.toList = (6, ⟨sf.data.toList, ls.data.toList, sz, false, bo⟩) := by
        unfold dAppend; rw [if_neg (by simp), if_pos (by rw [ba_len, len_all]; simp only [ba_len]; exact hf)]
      rw [e1]
      exact ⟨rfl, hu.imp fun S1 h1 => ⟨sf, ls, rfl, rfl, h1⟩⟩
    · refine (ref_append_ok g sf ls sz bo s S w h hwf.2 (show sf.size + ls.size + s.size ≤ sz from Nat.le_of_not_lt hf)).mono ?_
      rintro e w' ⟨rfl, hu⟩
      have e1 : dAppend ⟨sf.data.toList, ls.data.toList, sz, false, bo⟩ s.data.toList = (0, ⟨sf.data.toList, ls.data.toList ++ s.data.toList, sz, false, bo⟩) := by
        unfold dAppend; rw [if_neg (by simp), if_neg (by rw [ba_len, len_all]; simp only [ba_len]; exact hf)]
      rw [e1]
      exact ⟨rfl, hu.imp fun S1 h1 => ⟨sf, ls ++ s, rfl, ba_append _ _, h1⟩⟩

theorem d_sync (g : Nat) (st : DSt) (S : Nat → Prop) (w : World) (h : IsD g st S w) :
    Calls Try.prog 26 #[.pointer (some ⟨g, 0, none⟩)] w fun e w' => e = .returned (.int .i64 (dSync st).1) ∧ Upd S (IsD g (dSync st).2) w w' := by
  obtain ⟨safe, loose, sz, dn, bo⟩ := st
  cases dn with
  | true =>
    refine (disk_sync_down g _ _ _ _ S w h).mono ?_
    rintro e w' ⟨rfl, rfl⟩
    exact ⟨rfl, Upd.refl h⟩
  | false =>
    refine (disk_sync_ok g _ _ _ _ S w h).mono ?_
    rintro e w' ⟨rfl, hu⟩
    refine ⟨rfl, hu.imp fun S1 h1 => ?_⟩
    show IsDr g ((safe ++ loose) ++ []) (safe ++ loose).length sz false bo S1 w'
    rw [List.append_nil]
    exact h1
theorem m_sync (g : Nat) (st : DSt) (S : Nat → Prop) (w : World) (hwf : st.wf) (h : IsM g st S w) :
    Calls Try.prog 41 #[.pointer (some ⟨g, 0, none⟩)] w fun e w' => e = .returned (.int .i64 (dSync st).1) ∧ Upd S (IsM g (dSync st).2) w w' := by
  obtain ⟨safe, loose, sz, dn, bo⟩ := st
  obtain ⟨sf, ls, rfl, rfl, h⟩ := h
  unfold DSt.wf at hwf
  rw [len_all] at hwf
  simp only [ba_len] at hwf
  cases dn with
  | true =>
    refine (ref_sync_down g _ _ _ _ S w h).mono ?_
    rintro e w' ⟨rfl, rfl⟩
    exact ⟨rfl, Upd.refl ⟨sf, ls, rfl, rfl, h⟩⟩
  | false =>
    refine (ref_sync_ok g _ _ _ _ S w h (by omega)).mono ?_
    rintro e w' ⟨rfl, hu⟩
    exact ⟨rfl, hu.imp fun S1 h1 => ⟨sf ++ ls, ⟨#[]⟩, ba_append _ _, rfl, h1⟩⟩

theorem d_trim (g : Nat) (st : DSt) (n : Int) (S : Nat → Prop) (w : World) (hwf : st.wf) (h : IsD g st S w) :
    Calls Try.prog 27 #[.pointer (some ⟨g, 0, none⟩), .int .i64 n] w fun e w' => e = .returned (.int .i64 (dTrim st n).1) ∧ Upd S (IsD g (dTrim st n).2) w w' := by
  obtain ⟨safe, loose, sz, dn, bo⟩ := st
  unfold DSt.wf at hwf
  cases dn with
  | true =>
    refine (disk_trim_down g _ _ _ _ n S w h).mono ?_
    rintro e w' ⟨rfl, rfl⟩
    exact ⟨rfl, Upd.refl h⟩
  | false =>
    by_cases hn : n < 0 ∨ ((DSt.all ⟨safe, loose, sz, false, bo⟩).length : Int) < n
    · refine (disk_trim_arg g _ _ _ _ n S w h hn).mono ?_
      rintro e w' ⟨rfl, rfl⟩
      have e1 : dTrim ⟨safe, loose, sz, false, bo⟩ n = (1, ⟨safe, loose, sz, false, bo⟩) := by
        unfold dTrim; rw [if_neg (by simp), if_pos hn]
      rw [e1]
      exact ⟨rfl, Upd.refl h⟩
    · obtain ⟨k, rfl⟩ := Int.eq_ofNat_of_zero_le (show 0 ≤ n by omega)
      have hk : k ≤ (DSt.all ⟨safe, loose, sz, false, bo⟩).length := by omega
      refine (disk_trim_ok g _ _ _ _ k S w h hk (by have := hwf.1; have := hwf.2; omega)).mono ?_
      rintro e w' ⟨rfl, hu⟩
      have e1 : dTrim ⟨safe, loose, sz, false, bo⟩ (k : Int) = (0, ⟨(DSt.all ⟨safe, loose, sz, false, bo⟩).take k, [], sz, false, bo⟩) := by
        unfold dTrim; rw [if_neg (by simp), if_neg hn, Int.toNat_natCast]
      rw [e1]
      refine ⟨rfl, hu.imp fun S1 h1 => ?_⟩
      show IsDr g (_ ++ []) (List.take k _).length sz false bo S1 w'
      rw [List.append_nil, List.length_take, Nat.min_eq_left hk]
      exact h1
theorem m_trim (g : Nat) (st : DSt) (n : Int) (S : Nat → Prop) (w : World) (hwf : st.wf) (h : IsM g st S w) :
    Calls Try.prog 42 #[.pointer (some ⟨g, 0, none⟩), .int .i64 n] w fun e w' => e = .returned (.int .i64 (dTrim st n).1) ∧ Upd S (IsM g (dTrim st n).2) w w' := by
  obtain ⟨safe, loose, sz, dn, bo⟩ := st
  obtain ⟨sf, ls, rfl, rfl, h⟩ := h
  unfold DSt.wf at hwf
  rw [len_all] at hwf
  simp only [ba_len] at hwf
  cases dn with
  | true =>
    refine (ref_trim_down g _ _ _ _ n S w h).mono ?_
    rintro e w' ⟨rfl, rfl⟩
    exact ⟨rfl, Upd.refl ⟨sf, ls, rfl, rfl, h⟩⟩
  | false =>
    have hl : (DSt.all ⟨sf.data.toList, ls.data.toList, sz, false, bo⟩).length = sf.size + ls.size := by rw [len_all]; simp only [ba_len]
    by_cases hn : n < 0 ∨ ((sf.size + ls.size : Nat) : Int) < n
    · refine (ref_trim_arg g _ _ _ _ n S w h (by omega) hn).mono ?_
      rintro e w' ⟨rfl, hu⟩
      have e1 : dTrim ⟨sf.data.toList, ls.data.toList, sz, false, bo⟩ n = (1, ⟨sf.data.toList, ls.data.toList, sz, false, bo⟩) := by
        unfold dTrim; rw [if_neg (by simp), if_pos (by rw [hl]; exact hn)]
      rw [e1]
      exact ⟨rfl, hu.imp fun S1 h1 => ⟨sf, ls, rfl, rfl, h1⟩⟩
    · obtain ⟨k, rfl⟩ := Int.eq_ofNat_of_zero_le (show 0 ≤ n by omega)
      refine (ref_trim_ok g _ _ _ _ k S w h (by omega) (by omega)).mono ?_
      rintro e w' ⟨rfl, hu⟩
      have e1 : dTrim ⟨sf.data.toList, ls.data.toList, sz, false, bo⟩ (k : Int) = (0, ⟨(sf.data.toList ++ ls.data.toList).take k, [], sz, false, bo⟩) := by
        unfold dTrim; rw [if_neg (by simp), if_neg (by rw [hl]; exact hn), Int.toNat_natCast]; rfl
      rw [e1]
      exact ⟨rfl, hu.imp fun S1 h1 => ⟨(sf ++ ls).extract 0 k, ⟨#[]⟩, by rw [ba_head, ba_append], rfl, h1⟩⟩

theorem take_max (l : List UInt8) (k : Int) (m : Nat) (h : min (max k 0) (l.length : Int) = m) : l.take (max k 0).toNat = l.take m := by
  rcases Nat.le_total (max k 0).toNat l.length with h1 | h1
  · rw [show m = (max k 0).toNat by omega]
  · rw [List.take_of_length_le h1, List.take_of_length_le (by omega)]
theorem d_off (g : Nat) (st : DSt) (n : Int) (x : UInt8) (S : Nat → Prop) (w : World) (hwf : st.wf) (h : IsD g st S w) :
    Calls Try.prog 22 #[.pointer (some ⟨g, 0, none⟩), .int .i64 n, .int .u8 x.toNat] w fun e w' => e = .returned (.tuple #[]) ∧ Upd S (IsD g (dOff st n x)) w w' := by
  obtain ⟨safe, loose, sz, dn, bo⟩ := st
  unfold DSt.wf at hwf
  have hl := len_all ⟨safe, loose, sz, dn, bo⟩
  simp only at hl
  cases dn with
  | true =>
    refine (disk_off_down g _ _ _ _ n x S w h).mono ?_
    rintro e w' ⟨rfl, rfl⟩
    exact ⟨rfl, Upd.refl h⟩
  | false =>
    obtain ⟨m, hm⟩ : ∃ m : Nat, min (max n 0) (loose.length : Int) = m := Int.eq_ofNat_of_zero_le (by omega)
    refine (disk_off_ok g _ safe.length _ _ m n x S w h (by omega) (by have := hwf.1; have := hwf.2; omega) (by rw [hl]; omega)).mono ?_
    rintro e w' ⟨rfl, hu⟩
    refine ⟨rfl, hu.imp fun S1 h1 => ?_⟩
    show IsDr g (safe ++ turnLast (loose.take (max n 0).toNat) x) safe.length sz true bo S1 w'
    rw [take_max loose n m hm]
    have e1 : offL (safe ++ loose) safe.length m x = safe ++ turnLast (loose.take m) x := by
      unfold offL; rw [List.take_left, List.drop_left]
    rw [← e1]
    exact h1
theorem m_off (g : Nat) (st : DSt) (n : Int) (x : UInt8) (S : Nat → Prop) (w : World) (hwf : st.wf) (h : IsM g st S w) :
    Calls Try.prog 43 #[.pointer (some ⟨g, 0, none⟩), .int .i64 n, .int .u8 x.toNat] w fun e w' => e = .returned (.tuple #[]) ∧ Upd S (IsM g (dOff st n x)) w w' := by
  obtain ⟨safe, loose, sz, dn, bo⟩ := st
  obtain ⟨sf, ls, rfl, rfl, h⟩ := h
  unfold DSt.wf at hwf
  rw [len_all] at hwf
  simp only [ba_len] at hwf
  cases dn with
  | true =>
    refine (ref_off_down g _ _ _ _ n x S w h).mono ?_
    rintro e w' ⟨rfl, rfl⟩
    exact ⟨rfl, Upd.refl ⟨sf, ls, rfl, rfl, h⟩⟩
  | false =>
    obtain ⟨m, hm⟩ : ∃ m : Nat, min (max n 0) (ls.size : Int) = m := Int.eq_ofNat_of_zero_le (by omega)
    refine (ref_off_ok g _ _ _ _ m n x S w h (by omega) hm).mono ?_
    rintro e w' ⟨rfl, hu⟩
    refine ⟨rfl, hu.imp fun S1 h1 => ⟨sf, _, rfl, ?_, h1⟩⟩
    show turnLast (ls.data.toList.take m) x = turnLast (ls.data.toList.take (max n 0).toNat) x
    rw [take_max _ n m (by rw [ba_len]; exact hm)]

theorem d_on (g : Nat) (st : DSt) (S : Nat → Prop) (w : World) (hwf : st.wf) (hbo : st.boots ≤ 1000000) (h : IsD g st S w) :
    Calls Try.prog 17 #[.pointer (some ⟨g, 0, none⟩)] w fun e w' => e = .returned (.tuple #[]) ∧ Upd S (IsD g (dOn st)) w w' := by
  obtain ⟨safe, loose, sz, dn, bo⟩ := st
  unfold DSt.wf at hwf
  cases dn with
  | false =>
    refine (disk_on_up g _ _ _ _ S w h).mono ?_
    rintro e w' ⟨rfl, rfl⟩
    exact ⟨rfl, Upd.refl h⟩
  | true =>
    refine (disk_on_down g _ _ _ _ S w h hbo (by have := hwf.1; have := hwf.2; omega)).mono ?_
    rintro e w' ⟨rfl, hu⟩
    refine ⟨rfl, hu.imp fun S1 h1 => ?_⟩
    show IsDr g ((safe ++ loose) ++ []) (safe ++ loose).length sz false (bo + 1) S1 w'
    rw [List.append_nil]
    exact h1
theorem m_on (g : Nat) (st : DSt) (S : Nat → Prop) (w : World) (hwf : st.wf) (hbo : st.boots ≤ 1000000) (h : IsM g st S w) :
    Calls Try.prog 21 #[.pointer (some ⟨g, 0, none⟩)] w fun e w' => e = .returned (.tuple #[]) ∧ Upd S (IsM g (dOn st)) w w' := by
  obtain ⟨safe, loose, sz, dn, bo⟩ := st
  obtain ⟨sf, ls, rfl, rfl, h⟩ := h
  unfold DSt.wf at hwf
  rw [len_all] at hwf
  simp only [ba_len] at hwf
  cases dn with
  | false =>
    refine (ref_on_up g _ _ _ _ S w h).mono ?_
    rintro e w' ⟨rfl, rfl⟩
    exact ⟨rfl, Upd.refl ⟨sf, ls, rfl, rfl, h⟩⟩
  | true =>
    refine (ref_on_down g _ _ _ _ S w h (by omega) hbo).mono ?_
    rintro e w' ⟨rfl, hu⟩
    exact ⟨rfl, hu.imp fun S1 h1 => ⟨sf ++ ls, ⟨#[]⟩, ba_append _ _, rfl, h1⟩⟩

theorem d_read (g : Nat) (st : DSt) (S : Nat → Prop) (w : World) (h : IsD g st S w) :
    Calls Try.prog 18 #[.pointer (some ⟨g, 0, none⟩)] w fun e w' => e = .returned (.string ⟨(if st.down = true then [] else st.all).toArray⟩) ∧ w = w' := by
  obtain ⟨safe, loose, sz, dn, bo⟩ := st
  cases dn with
  | false => exact disk_read_up g _ _ _ _ S w h
  | true => exact disk_read_down g _ _ _ _ S w h
theorem d_down (g : Nat) (st : DSt) (S : Nat → Prop) (w : World) (h : IsD g st S w) :
    Calls Try.prog 23 #[.pointer (some ⟨g, 0, none⟩)] w fun e w' => e = .returned (.bool st.down) ∧ w = w' := disk_down g _ _ _ _ _ S w h
theorem d_safe (g : Nat) (st : DSt) (S : Nat → Prop) (w : World) (h : IsD g st S w) :
    Calls Try.prog 24 #[.pointer (some ⟨g, 0, none⟩)] w fun e w' => e = .returned (.int .i64 (st.safe.length : Int)) ∧ w = w' := disk_safe g _ _ _ _ _ S w h
theorem d_boots (g : Nat) (st : DSt) (S : Nat → Prop) (w : World) (h : IsD g st S w) :
    Calls Try.prog 28 #[.pointer (some ⟨g, 0, none⟩)] w fun e w' => e = .returned (.int .i64 (st.boots : Int)) ∧ w = w' := disk_boots g _ _ _ _ _ S w h
theorem d_left (g : Nat) (st : DSt) (S : Nat → Prop) (w : World) (hwf : st.wf) (h : IsD g st S w) :
    Calls Try.prog 19 #[.pointer (some ⟨g, 0, none⟩)] w fun e w' => e = .returned (.int .i64 ((st.size : Int) - (st.all.length : Int))) ∧ Upd S (IsD g st) w w' := disk_left g _ _ _ _ _ S w h hwf.2 hwf.1
theorem d_new (n : Int) (w : World) :
    Calls Try.prog 14 #[.int .i64 n] w fun e w' => e = .returned (.pointer (some ⟨w.heap.size, 0, none⟩)) ∧ Fr w w' ∧ IsD w.heap.size (dNew n) (fun k => k = w.heap.size) w' := disk_new n w
theorem m_new (n : Int) (w : World) :
    Calls Try.prog 15 #[.int .i64 n] w fun e w' => e = .returned (.pointer (some ⟨w.heap.size, 0, none⟩)) ∧ Fr w w' ∧ IsM w.heap.size (dNew n) (fun k => k = w.heap.size) w' := by
  refine (ref_new n w).mono ?_
  rintro e w' ⟨rfl, hf, hm⟩
  exact ⟨rfl, hf, ⟨#[]⟩, ⟨#[]⟩, rfl, rfl, hm⟩

end Go.Proofs.Ythdhcllljmkamaa
