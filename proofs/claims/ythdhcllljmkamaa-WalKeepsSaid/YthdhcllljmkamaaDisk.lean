/- The walks of package disk. -/
import Derived.Test.YthdhcllljmkamaaProg
import Derived.Test.YthdhcllljmkamaaDiskPure
import Derived.Test.YthdhcllljmkamaaDRow
import Derived.Test.YthdhcllljmkamaaBlk
import Derived.Test.YthdhcllljmkamaaReg
namespace Go.Proofs.Ythdhcllljmkamaa
open Go.RowKit
set_option linter.unusedVariables false

theorem infoU8 : (Try.prog.info? 5).map (fun i => (i.zero, i.size, i.bytes)) = some (some (.int .u8 0), 1, 1) := by kernel_rfl
abbrev dCells (v : Value) (a sz : Nat) (dn : Bool) (bo : Nat) : Array Value := #[v, .int .i64 (a : Int), .int .i64 (sz : Int), .bool dn, .int .i64 (bo : Int)]
/-- A disk in block g: its bytes, how many are safe, how many there is room for, whether it is down, its boots. -/
def IsDr (g : Nat) (L : List UInt8) (a sz : Nat) (dn : Bool) (bo : Nat) : Asr := fun S w => ∃ v, Blk w g 64 (dCells v a sz dn bo) ∧ dRow 5 w v L ∧ ∀ k, S k ↔ k = g ∨ some k = v.ownBlock
theorem IsDr.local (g : Nat) (L : List UInt8) (a sz : Nat) (dn : Bool) (bo : Nat) : LocalA (IsDr g L a sz dn bo) := by
  refine ⟨?_, ?_⟩
  · rintro S w w' ⟨v, h1, h2, h3⟩ hk
    exact ⟨v, h1.keep (hk g ((h3 g).2 (.inl rfl))), h2.keep (fun k h => hk k ((h3 k).2 (.inr h.symm))), h3⟩
  · rintro S w k ⟨v, h1, h2, h3⟩ hk
    rcases (h3 k).1 hk with rfl | h
    · exact h1.lt
    · exact h2.lt k h.symm
theorem IsDr.done {g : Nat} {L : List UInt8} {a sz : Nat} {dn : Bool} {bo : Nat} {S : Nat → Prop} {w w' : World} {v v' : Value} (hS : ∀ k, S k ↔ k = g ∨ some k = v.ownBlock) (hst : Step S w w')
    (hb : Blk w' g 64 (dCells v' a sz dn bo)) (hr : dRow 5 w' v' L) (hv : v'.ownBlock = v.ownBlock ∨ ∃ k, v'.ownBlock = some k ∧ w.heap.size ≤ k) : Upd S (IsDr g L a sz dn bo) w w' := by
  refine ⟨_, ⟨v', hb, hr, fun k => Iff.rfl⟩, hst, ?_⟩
  rintro k (rfl | hk)
  · exact .inl ((hS _).2 (.inl rfl))
  · rcases hv with h | ⟨j, h, hj⟩
    · exact .inl ((hS k).2 (.inr (hk.trans h)))
    · rw [h] at hk
      injection hk with hk
      exact .inr (hk ▸ hj)
theorem cells5 {w : World} {g : Nat} {t : TypeId} {a b c d e : Value} (h : Blk w g t #[a, b, c, d, e]) :
    w.cell? ⟨g, 0, none⟩ = some a ∧ w.cell? ⟨g, 1, none⟩ = some b ∧ w.cell? ⟨g, 2, none⟩ = some c ∧ w.cell? ⟨g, 3, none⟩ = some d ∧ w.cell? ⟨g, 4, none⟩ = some e ∧
    w.frozen? ⟨g, 0, none⟩ = false ∧ w.frozen? ⟨g, 1, none⟩ = false ∧ w.frozen? ⟨g, 2, none⟩ = false ∧ w.frozen? ⟨g, 3, none⟩ = false ∧ w.frozen? ⟨g, 4, none⟩ = false :=
  ⟨h.cell 0, h.cell 1, h.cell 2, h.cell 3, h.cell 4, h.frozen 0, h.frozen 1, h.frozen 2, h.frozen 3, h.frozen 4⟩

set_option maxHeartbeats 400000 in
theorem disk_new (n : Int) (w : World) :
    Calls Try.prog 14 #[.int .i64 n] w fun e w' => e = .returned (.pointer (some ⟨w.heap.size, 0, none⟩)) ∧ Fr w w' ∧ IsDr w.heap.size [] 0 (min (max n 0) 262144).toNat false 1 (fun k => k = w.heap.size) w' := by
  go_enter Try.func14, Try.ntmps14
  go_wp2
  all_goals
    go_ret
    refine ⟨rfl, (Fr.refl w).alloc _, .slice none 0 0, ?_, dRow.nil _ _, fun k => by simp [Value.ownBlock]⟩
    unfold dCells
    first
    | (rw [show ((min (max n 0) 262144).toNat : Int) = 0 by omega]; exact Blk.new w _ _)
    | (rw [show ((min (max n 0) 262144).toNat : Int) = 262144 by omega]; exact Blk.new w _ _)
    | (rw [show ((min (max n 0) 262144).toNat : Int) = n by omega]; exact Blk.new w _ _)

set_option maxHeartbeats 400000 in
theorem disk_append_down (g : Nat) (L : List UInt8) (a sz bo : Nat) (s : ByteArray) (S : Nat → Prop) (w : World) (h : IsDr g L a sz true bo S w) :
    Calls Try.prog 20 #[.pointer (some ⟨g, 0, none⟩), .string s] w fun e w' => e = .returned (.int .i64 7) ∧ w = w' := by
  obtain ⟨v, hb, hr, hS⟩ := h
  obtain ⟨c0, c1, c2, c3, c4, f0, f1, f2, f3, f4⟩ := cells5 hb
  clear hb hr hS
  go_enter Try.func20, Try.ntmps20
  go_wp2
  go_ret
  exact ⟨rfl, rfl⟩
set_option maxHeartbeats 400000 in
theorem disk_append_full (g : Nat) (L : List UInt8) (a sz bo : Nat) (s : ByteArray) (S : Nat → Prop) (w : World) (h : IsDr g L a sz false bo S w) (hs : s.size ≤ maxLen) (hsz : sz ≤ 262144) (hL : L.length ≤ sz) (hf : sz < L.length + s.size) :
    Calls Try.prog 20 #[.pointer (some ⟨g, 0, none⟩), .string s] w fun e w' => e = .returned (.int .i64 6) ∧ Upd S (IsDr g L a sz false bo) w w' := by
  have hk := h
  obtain ⟨v, hb, hr, hS⟩ := h
  obtain ⟨ao, c, rfl, _⟩ := hr.read
  obtain ⟨c0, c1, c2, c3, c4, f0, f1, f2, f3, f4⟩ := cells5 hb
  have hd : decide ((sz : Int) - (L.length : Int) < (s.size : Int)) = true := by simp; omega
  have HK := Lib.hid hk
  clear hb hr hS hk
  unfold maxLen at hs
  go_enter Try.func20, Try.ntmps20
  go_wp2_with fail
  go_quiet (fail)
  go_wp2
  go_ret
  exact ⟨rfl, S, (IsDr.local g L a sz false bo).keep _ _ _ HK.out (fun k _ => rfl), (Step.refl S w).drewN _, fun k hk => .inl hk⟩
set_option maxHeartbeats 1000000 in
theorem disk_append_ok (g : Nat) (L : List UInt8) (a sz bo : Nat) (s : ByteArray) (S : Nat → Prop) (w : World) (h : IsDr g L a sz false bo S w) (hsz : sz ≤ 262144) (hf : L.length + s.size ≤ sz) :
    Calls Try.prog 20 #[.pointer (some ⟨g, 0, none⟩), .string s] w fun e w' => e = .returned (.int .i64 0) ∧ Upd S (IsDr g (L ++ s.data.toList) a sz false bo) w w' := by
  obtain ⟨i0, hi, hz0, hz1, hz2⟩ := info_parts infoU8
  obtain ⟨v, hb, hr, hS⟩ := h
  obtain ⟨ao, c, rfl, _⟩ := hr.read
  obtain ⟨c0, c1, c2, c3, c4, f0, f1, f2, f3, f4⟩ := cells5 hb
  have hd : decide ((sz : Int) - (L.length : Int) < (s.size : Int)) = false := by simp; omega
  obtain ⟨M, hM⟩ : ∃ M, L ++ s.data.toList = M := ⟨_, rfl⟩
  rw [hM]
  have HM := Lib.hid hM
  clear hM
  have HB := Lib.hid hb
  have HS := Lib.hid hS
  have HN := Lib.hid (hr.types hb (by decide))
  have hr' : ∀ n, dRow 5 (w.drewN n) (.slice ao L.length c) L := fun n => hr.keep (fun k _ => rfl)
  have HR := Lib.hid hr'
  clear hb hS hr hr'
  go_enter Try.func20, Try.ntmps20
  go_wp2_with fail
  go_quiet (fail)
  go_wp2_with (at_builtin; refine wpList_append_dRow rfl _ _ 45 9 rfl 5 i0 Try.underlying45 Try.underlying9 hi hz0 hz1 hz2 _ _ rfl (HR.out _) s rfl ?c3 ?_)
  case c3 => omega
  intro v' w1 hrow hgrow hat
  rw [HM.out] at hrow
  have hb1 : Blk w1 g 64 (dCells (.slice ao L.length c) a sz false bo) := Blk.keep (w := w) HB.out (hgrow.block g HB.out.lt (fun e => HN.out e.symm))
  obtain ⟨ao', c', rfl, _⟩ := hrow.read
  obtain ⟨d0, d1, d2, d3, d4, e0, e1, e2, e3, e4⟩ := cells5 hb1
  have HB1 := Lib.hid hb1
  have HRow := Lib.hid hrow
  have HNr := Lib.hid (hrow.types hb1 (by decide))
  have HG := Lib.hid hgrow
  have HAT := Lib.hid hat
  clear hb1 hrow hgrow hat c0 c1 c2 c3 c4 f0 f1 f2 f3 f4
  go_wp2
  go_ret
  refine ⟨rfl, IsDr.done (v := .slice ao L.length c) HS.out ?_ (HB1.out.set_ 0 _) (HRow.out.keep (fun k hk => Below.heap_setCell _ _ _ _ (fun e => HNr.out (hk.trans (congrArg some e))))) ?_⟩
  · have s1 : Step S w w1 := ((Step.refl S w).drewN _).trans (Step.of_grown HG.out) (fun i hi => .inl ((HS.out i).2 (.inr hi)))
    exact s1.setCell ((HS.out g).2 (.inl rfl)) _
  · rcases HAT.out with h | h
    · exact .inl h
    · exact .inr ⟨_, h, Nat.le_refl _⟩

set_option maxHeartbeats 400000 in
theorem disk_sync_down (g : Nat) (L : List UInt8) (a sz bo : Nat) (S : Nat → Prop) (w : World) (h : IsDr g L a sz true bo S w) :
    Calls Try.prog 26 #[.pointer (some ⟨g, 0, none⟩)] w fun e w' => e = .returned (.int .i64 7) ∧ w = w' := by
  obtain ⟨v, hb, hr, hS⟩ := h
  obtain ⟨c0, c1, c2, c3, c4, f0, f1, f2, f3, f4⟩ := cells5 hb
  clear hb hr hS
  go_enter Try.func26, Try.ntmps26
  go_wp2
  go_ret
  exact ⟨rfl, rfl⟩
set_option maxHeartbeats 400000 in
theorem disk_sync_ok (g : Nat) (L : List UInt8) (a sz bo : Nat) (S : Nat → Prop) (w : World) (h : IsDr g L a sz false bo S w) :
    Calls Try.prog 26 #[.pointer (some ⟨g, 0, none⟩)] w fun e w' => e = .returned (.int .i64 0) ∧ Upd S (IsDr g L L.length sz false bo) w w' := by
  obtain ⟨v, hb, hr, hS⟩ := h
  obtain ⟨ao, c, rfl, _⟩ := hr.read
  obtain ⟨c0, c1, c2, c3, c4, f0, f1, f2, f3, f4⟩ := cells5 hb
  have HB := Lib.hid hb
  have HS := Lib.hid hS
  have HN := Lib.hid (hr.types hb (by decide))
  have HR := Lib.hid hr
  clear hb hS hr
  go_enter Try.func26, Try.ntmps26
  go_wp2
  go_ret
  refine ⟨rfl, IsDr.done (v := .slice ao L.length c) HS.out ((Step.refl S w).setCell ((HS.out g).2 (.inl rfl)) _) (HB.out.set_ 1 _) (HR.out.keep (fun k hk => Below.heap_setCell _ _ _ _ (fun e => HN.out (hk.trans (congrArg some e))))) (.inl rfl)⟩

set_option maxHeartbeats 400000 in
theorem disk_trim_down (g : Nat) (L : List UInt8) (a sz bo : Nat) (n : Int) (S : Nat → Prop) (w : World) (h : IsDr g L a sz true bo S w) :
    Calls Try.prog 27 #[.pointer (some ⟨g, 0, none⟩), .int .i64 n] w fun e w' => e = .returned (.int .i64 7) ∧ w = w' := by
  obtain ⟨v, hb, hr, hS⟩ := h
  obtain ⟨c0, c1, c2, c3, c4, f0, f1, f2, f3, f4⟩ := cells5 hb
  clear hb hr hS
  go_enter Try.func27, Try.ntmps27
  go_wp2
  go_ret
  exact ⟨rfl, rfl⟩
set_option maxHeartbeats 400000 in
theorem disk_trim_arg (g : Nat) (L : List UInt8) (a sz bo : Nat) (n : Int) (S : Nat → Prop) (w : World) (h : IsDr g L a sz false bo S w) (hn : n < 0 ∨ (L.length : Int) < n) :
    Calls Try.prog 27 #[.pointer (some ⟨g, 0, none⟩), .int .i64 n] w fun e w' => e = .returned (.int .i64 1) ∧ w = w' := by
  obtain ⟨v, hb, hr, hS⟩ := h
  obtain ⟨ao, c, rfl, _⟩ := hr.read
  obtain ⟨c0, c1, c2, c3, c4, f0, f1, f2, f3, f4⟩ := cells5 hb
  clear hb hr hS
  rcases (show n < 0 ∨ (0 ≤ n ∧ (L.length : Int) < n) by omega) with h | ⟨h, h2⟩
  all_goals
    clear hn
    go_enter Try.func27, Try.ntmps27
    go_wp2
    go_ret
    exact ⟨rfl, rfl⟩
set_option maxHeartbeats 400000 in
theorem disk_trim_ok (g : Nat) (L : List UInt8) (a sz bo n : Nat) (S : Nat → Prop) (w : World) (h : IsDr g L a sz false bo S w) (hn : n ≤ L.length) (hL : L.length ≤ 262144) :
    Calls Try.prog 27 #[.pointer (some ⟨g, 0, none⟩), .int .i64 n] w fun e w' => e = .returned (.int .i64 0) ∧ Upd S (IsDr g (L.take n) n sz false bo) w w' := by
  obtain ⟨v, hb, hr, hS⟩ := h
  obtain ⟨ao, c, rfl, _⟩ := hr.read
  have hc : L.length ≤ c ∧ c ≤ maxLen := by
    rcases hr.form with ⟨h1, h2⟩ | ⟨b', c', cur, h1, h2, h3, h4, _⟩
    · injection h1 with h1 h3 h4; unfold maxLen; omega
    · injection h1 with _ _ h1; subst h1; exact ⟨h3, h4⟩
  obtain ⟨hc1, hc2⟩ := hc
  unfold maxLen at hc2
  obtain ⟨c0, c1, c2, c3, c4, f0, f1, f2, f3, f4⟩ := cells5 hb
  have HB := Lib.hid hb
  have HS := Lib.hid hS
  have hcut := hr.cut hn
  have HN := Lib.hid (hcut.types hb (by decide))
  have HR := Lib.hid hcut
  clear hb hS hr hcut
  go_enter Try.func27, Try.ntmps27
  go_wp2
  go_ret
  have hst : Step S w ((w.setCell ⟨g, 0, none⟩ (.slice ao n n)).setCell ⟨g, 1, none⟩ (.int .i64 n)) := ((Step.refl S w).setCell ((HS.out g).2 (.inl rfl)) _).setCell ((HS.out g).2 (.inl rfl)) _
  refine ⟨rfl, IsDr.done (v := .slice ao L.length c) (v' := .slice ao n n) HS.out hst ((HB.out.set_ 0 _).set_ 1 _) (HR.out.keep (fun k hk => ?_)) (.inl (by cases ao <;> rfl))⟩
  have hne : k ≠ g := fun e => HN.out (hk.trans (congrArg some e))
  exact (Below.heap_setCell _ _ _ _ hne).trans (Below.heap_setCell _ _ _ _ hne)

set_option maxHeartbeats 400000 in
theorem disk_off_down (g : Nat) (L : List UInt8) (a sz bo : Nat) (n : Int) (x : UInt8) (S : Nat → Prop) (w : World) (h : IsDr g L a sz true bo S w) :
    Calls Try.prog 22 #[.pointer (some ⟨g, 0, none⟩), .int .i64 n, .int .u8 x.toNat] w fun e w' => e = .returned (.tuple #[]) ∧ w = w' := by
  obtain ⟨v, hb, hr, hS⟩ := h
  obtain ⟨c0, c1, c2, c3, c4, f0, f1, f2, f3, f4⟩ := cells5 hb
  clear hb hr hS
  go_enter Try.func22, Try.ntmps22
  go_wp2
  refine bodyPost_ret (results_none rfl _ _ _) rfl ?_
  exact ⟨rfl, rfl⟩
/-- What is left. -/
def offL (L : List UInt8) (a m : Nat) (x : UInt8) : List UInt8 := L.take a ++ turnLast ((L.drop a).take m) x
theorem offL_zero (L : List UInt8) (a : Nat) (x : UInt8) : offL L a 0 x = L.take a := by simp [offL, turnLast]
theorem modify_set (l : List UInt8) (i : Nat) (x : UInt8) (h : i < l.length) : l.modify i (· ^^^ x) = l.set i (l[i] ^^^ x) := by
  apply List.ext_getElem?
  intro j
  rw [List.getElem?_modify, List.getElem?_set]
  by_cases e : i = j
  · subst e
    simp [h]
  · simp [e]
theorem offL_pos (L : List UInt8) (a m : Nat) (x : UInt8) (hm : 0 < m) (h : a + m ≤ L.length) : offL L a m x = (L.take (a + m)).set (a + m - 1) (L[a + m - 1] ^^^ x) := by
  have hl : ((L.drop a).take m).length = m := by rw [List.length_take, List.length_drop]; omega
  have hla : (L.take a).length = a := by rw [List.length_take]; omega
  unfold offL turnLast
  rw [hl, modify_set _ _ _ (by omega), List.take_add, List.set_append_right _ _ (by omega), hla, show a + m - 1 - a = m - 1 by omega]
  congr 2
  rw [List.getElem_take, List.getElem_drop]
  congr 2
  omega
theorem u8_xor_val (x y : UInt8) : bits .xor .u8 (x.toNat : Int) (y.toNat : Int) = ((x ^^^ y).toNat : Int) := by
  rw [UInt8.toNat_xor]
  exact u8_xor_nat _ _ x.toNat_lt y.toNat_lt
set_option maxHeartbeats 1000000 in
theorem disk_off_ok (g : Nat) (L : List UInt8) (a sz bo m : Nat) (n : Int) (x : UInt8) (S : Nat → Prop) (w : World) (h : IsDr g L a sz false bo S w) (ha : a ≤ L.length) (hL : L.length ≤ 262144) (hn : min (max n 0) (L.length - a) = m) :
    Calls Try.prog 22 #[.pointer (some ⟨g, 0, none⟩), .int .i64 n, .int .u8 x.toNat] w fun e w' => e = .returned (.tuple #[]) ∧ Upd S (IsDr g (offL L a m x) a sz true bo) w w' := by
  obtain ⟨v, hb, hr, hS⟩ := h
  obtain ⟨ao, c, rfl, _⟩ := hr.read
  have hc : L.length ≤ c ∧ c ≤ maxLen := by
    rcases hr.form with ⟨h1, h2⟩ | ⟨b', c', cur, h1, h2, h3, h4, _⟩
    · injection h1 with h1 h3 h4; unfold maxLen; omega
    · injection h1 with _ _ h1; subst h1; exact ⟨h3, h4⟩
  obtain ⟨hc1, hc2⟩ := hc
  unfold maxLen at hc2
  obtain ⟨c0, c1, c2, c3, c4, f0, f1, f2, f3, f4⟩ := cells5 hb
  have hm : a + m ≤ L.length := by omega
  have HB := Lib.hid hb
  have HS := Lib.hid hS
  have hcut := hr.cut hm
  have HN := Lib.hid (hcut.types hb (by decide))
  have HNM := Lib.hid hn
  have HR := Lib.hid hcut
  have HRD := Lib.hid hr
  clear hb hS hr hcut hn
  go_enter Try.func22, Try.ntmps22
  go_upto_region 1 with (fail)
  go_cut [6] (fun s6 wx => s6 = .int .i64 m ∧ Hid (Fr w wx) ∧ Hid (wx.heap = w.heap))
  case first =>
    by_cases h1 : n < 0
    · go_quiet (fail)
      go_wp2
      go_meet
      exact ⟨val_int (by have := HNM.out; omega), (Fr.refl w).drewN _, rfl⟩
    · have h2 : 0 ≤ n := by omega
      clear h1
      go_quiet (fail)
      go_wp2
      all_goals
        go_meet
        exact ⟨val_int (by have := HNM.out; omega), (Fr.refl w).drewN _, rfl⟩
  case rest =>
    obtain ⟨rfl, hfr, hheap⟩ := hcut
    have hbc : Blk wc g 64 (dCells (.slice ao L.length c) a sz false bo) := Blk.keep (w := w) HB.out (by rw [hheap.out])
    have HBC := Lib.hid hbc
    clear c0 c1 c2 c3 c4 f0 f1 f2 f3 f4
    obtain ⟨c0, c1, c2, c3, c4, f0, f1, f2, f3, f4⟩ := cells5 hbc
    clear hbc
    have k0 : 0 ≤ (a : Int) + (m : Int) := by omega
    have k1 : ((a : Int) + (m : Int)).toNat = a + m := by omega
    have k3 : (a : Int) + (m : Int) ≤ (c : Int) := by omega
    have k2 : IntKind.i64.wrap ((a : Int) + (m : Int)) = (a : Int) + (m : Int) := IntWalk.i64_in _ (by omega)
    go_wp2_with fail
    go_still_tail 20, (by kernel_rfl)
    change wpList _ _ _ _ _ wc.drew
    clear k0 k1 k2 k3
    have hlen : (L.take (a + m)).length = a + m := by rw [List.length_take]; omega
    obtain ⟨L2, hL2⟩ : ∃ L2, L.take (a + m) = L2 := ⟨_, rfl⟩
    have hrow := HR.out
    rw [hL2] at hrow hlen
    have HL2 := Lib.hid hL2
    have HLN := Lib.hid hlen
    by_cases hm0 : m = 0
    · subst hm0
      have hd : decide (0 < ((0 : Nat) : Int)) = false := by simp
      clear hlen hL2 hrow
      go_wp2
      go_end0
      have hz : offL L a 0 x = L2 := by rw [offL_zero, ← HL2.out]; rfl
      rw [hz]
      refine ⟨rfl, IsDr.done (v := .slice ao L.length c) (v' := .slice ao (a + 0) (a + 0)) HS.out ?_ ((HBC.out.set_ 0 _).set_ 3 _) (dRow.keep (w := w) (by rw [← HL2.out]; exact HR.out) (fun k hk => ?_)) (.inl (by cases ao <;> rfl))⟩
      · exact (((Step.of_fr hfr.out).setCell ((HS.out g).2 (.inl rfl)) _).setCell ((HS.out g).2 (.inl rfl)) _).drew
      · have hne : k ≠ g := fun e => HN.out (hk.trans (congrArg some e))
        exact (Below.heap_setCell _ _ _ _ hne).trans ((Below.heap_setCell _ _ _ _ hne).trans (by rw [hheap.out]))
    · have hd : decide (0 < (m : Int)) = true := by simp; omega
      have hd3 : 0 < (m : Int) := by omega
      have hne : ∀ k, Value.ownBlock (.slice ao (a + m) (a + m)) = some k → k ≠ g := fun k hk e => HN.out (hk.trans (congrArg some e))
      obtain ⟨b, rfl⟩ : ∃ b, ao = some ⟨b, 0, none⟩ := by
        rcases hrow.form with ⟨h1, h2⟩ | ⟨b', c', cur, h1, _⟩
        · rw [h2] at hlen; simp at hlen; omega
        · injection h1 with h1; exact ⟨b', h1⟩
      have hgb : b ≠ g := hne b rfl
      have hbw : Blk (wc.setCell ⟨g, 0, none⟩ (.slice (some ⟨b, 0, none⟩) (a + m) (a + m))).drew g 64 (dCells (.slice (some ⟨b, 0, none⟩) (a + m) (a + m)) a sz false bo) := HBC.out.set_ 0 _
      have hrw : dRow 5 (wc.setCell ⟨g, 0, none⟩ (.slice (some ⟨b, 0, none⟩) (a + m) (a + m))).drew (.slice (some ⟨b, 0, none⟩) (a + m) (a + m)) L2 := hrow.keep (fun k hk => (Below.heap_setCell _ _ _ _ (hne k hk)).trans (by rw [hheap.out]))
      have hsw : Step S w (wc.setCell ⟨g, 0, none⟩ (.slice (some ⟨b, 0, none⟩) (a + m) (a + m))).drew := ((Step.of_fr hfr.out).setCell ((HS.out g).2 (.inl rfl)) _).drew
      go_wp2_with fail
      clear c0 c1 c2 c3 c4 f0 f1 f2 f3 f4
      generalize (wc.setCell ⟨g, 0, none⟩ (.slice (some ⟨b, 0, none⟩) (a + m) (a + m))).drew = w4 at hbw hrw hsw ⊢
      have hcell := hrw.cell (i := a + m - 1) (by omega)
      have hfz : w4.frozen? ⟨b, a + m - 1, none⟩ = false := by
        rcases hrw.form with ⟨h1, _⟩ | ⟨b', c', cur, h1, h2, _⟩
        · cases h1
        · injection h1 with h1; injection h1 with h1; injection h1 with h1; subst h1
          simp [World.frozen?, h2]
      obtain ⟨y, hy⟩ : ∃ y, L2[a + m - 1]'(by omega) = y := ⟨_, rfl⟩
      rw [hy] at hcell
      have HSET := Lib.hid (hrw.set hlen.symm (i := a + m - 1) (by omega) (y ^^^ x))
      have hoff : offL L a m x = L2.set (a + m - 1) (y ^^^ x) := by
        rw [offL_pos L a m x (by omega) hm]
        subst hL2
        rw [← hy, List.getElem_take]
      have HOFF := Lib.hid hoff
      have HXV := Lib.hid (u8_xor_val y x)
      have HSW := Lib.hid hsw
      have HBW := Lib.hid hbw
      obtain ⟨c0, c1, c2, c3, c4, f0, f1, f2, f3, f4⟩ := cells5 hbw
      clear hoff hrw hsw hbw hrow hy hlen hL2 hne
      have k0 : 0 ≤ (a : Int) + (m : Int) - 1 := by omega
      have k1 : ((a : Int) + (m : Int) - 1).toNat = a + m - 1 := by omega
      have k2 : IntKind.i64.wrap ((a : Int) + (m : Int)) = (a : Int) + (m : Int) := IntWalk.i64_in _ (by omega)
      have k3 : IntKind.i64.wrap ((a : Int) + (m : Int) - 1) = (a : Int) + (m : Int) - 1 := IntWalk.i64_in _ (by omega)
      have k4 : (a : Int) + (m : Int) - 1 < (a : Int) + (m : Int) := by omega
      have k5 : 1 ≤ (a : Int) + (m : Int) := by omega
      go_still_tail 16, (by kernel_rfl)
      change wpList _ _ _ _ _ w4.drew
      clear k0 k1 k2 k3 k4
      go_wp2_with fail
      go_end0
      rw [HXV.out, HOFF.out]
      refine ⟨rfl, IsDr.done (v := .slice (some ⟨b, 0, none⟩) L.length c) (v' := .slice (some ⟨b, 0, none⟩) (a + m) (a + m)) HS.out ?_ (((HBW.out.far (p := ⟨b, a + m - 1, none⟩) hgb.symm _).set_ 3 _)) (HSET.out.keep (fun k hk => ?_)) (.inl rfl)⟩
      · exact (((HSW.out.setCell (p := ⟨b, a + m - 1, none⟩) ((HS.out b).2 (.inr rfl)) _).setCell ((HS.out g).2 (.inl rfl)) _)).drew
      · have hne : k ≠ g := by
          have e : b = k := by simpa [Value.ownBlock] using hk
          rw [← e]; exact hgb
        exact Below.heap_setCell _ _ _ _ hne

set_option maxHeartbeats 400000 in
theorem disk_on_up (g : Nat) (L : List UInt8) (a sz bo : Nat) (S : Nat → Prop) (w : World) (h : IsDr g L a sz false bo S w) :
    Calls Try.prog 17 #[.pointer (some ⟨g, 0, none⟩)] w fun e w' => e = .returned (.tuple #[]) ∧ w = w' := by
  obtain ⟨v, hb, hr, hS⟩ := h
  obtain ⟨c0, c1, c2, c3, c4, f0, f1, f2, f3, f4⟩ := cells5 hb
  clear hb hr hS
  go_enter Try.func17, Try.ntmps17
  go_wp2
  go_end0
  exact ⟨rfl, rfl⟩
set_option maxHeartbeats 400000 in
theorem disk_on_down (g : Nat) (L : List UInt8) (a sz bo : Nat) (S : Nat → Prop) (w : World) (h : IsDr g L a sz true bo S w) (hbo : bo ≤ 1000000) (hL : L.length ≤ 262144) :
    Calls Try.prog 17 #[.pointer (some ⟨g, 0, none⟩)] w fun e w' => e = .returned (.tuple #[]) ∧ Upd S (IsDr g L L.length sz false (bo + 1)) w w' := by
  obtain ⟨v, hb, hr, hS⟩ := h
  obtain ⟨ao, c, rfl, _⟩ := hr.read
  obtain ⟨c0, c1, c2, c3, c4, f0, f1, f2, f3, f4⟩ := cells5 hb
  have HB := Lib.hid hb
  have HS := Lib.hid hS
  have HN := Lib.hid (hr.types hb (by decide))
  have HR := Lib.hid hr
  clear hb hS hr
  go_enter Try.func17, Try.ntmps17
  go_wp2
  go_end0
  refine ⟨rfl, IsDr.done (v := .slice ao L.length c) HS.out ((((Step.refl S w).setCell ((HS.out g).2 (.inl rfl)) _).setCell ((HS.out g).2 (.inl rfl)) _).setCell ((HS.out g).2 (.inl rfl)) _) ?_ (HR.out.keep (fun k hk => ?_)) (.inl rfl)⟩
  · exact ((HB.out.set_ 3 _).set_ 1 _).set_ 4 _
  · have hne : k ≠ g := fun e => HN.out (hk.trans (congrArg some e))
    exact (Below.heap_setCell _ _ _ _ hne).trans ((Below.heap_setCell _ _ _ _ hne).trans (Below.heap_setCell _ _ _ _ hne))

set_option maxHeartbeats 400000 in
theorem disk_read_down (g : Nat) (L : List UInt8) (a sz bo : Nat) (S : Nat → Prop) (w : World) (h : IsDr g L a sz true bo S w) :
    Calls Try.prog 18 #[.pointer (some ⟨g, 0, none⟩)] w fun e w' => e = .returned (.string ⟨#[]⟩) ∧ w = w' := by
  obtain ⟨v, hb, hr, hS⟩ := h
  obtain ⟨c0, c1, c2, c3, c4, f0, f1, f2, f3, f4⟩ := cells5 hb
  clear hb hr hS
  go_enter Try.func18, Try.ntmps18
  go_wp2
  go_ret
  exact ⟨rfl, rfl⟩
theorem strOfNums_bytes (L : List UInt8) : strOfNums (L.map fun c => (c.toNat : Int)) = ⟨L.toArray⟩ := by
  apply ba_ext
  rw [strOfNums_data, List.map_map]
  show List.map _ L = L
  induction L with
  | nil => rfl
  | cons a l ih => rw [List.map_cons, ih]; congr 1; show UInt8.ofNat ((a.toNat : Int).toNat) = a; rw [Int.toNat_natCast]; simp
set_option maxHeartbeats 400000 in
theorem disk_read_up (g : Nat) (L : List UInt8) (a sz bo : Nat) (S : Nat → Prop) (w : World) (h : IsDr g L a sz false bo S w) :
    Calls Try.prog 18 #[.pointer (some ⟨g, 0, none⟩)] w fun e w' => e = .returned (.string ⟨L.toArray⟩) ∧ w = w' := by
  obtain ⟨v, hb, hr, hS⟩ := h
  obtain ⟨ao, c, rfl, hrd⟩ := hr.read
  obtain ⟨c0, c1, c2, c3, c4, f0, f1, f2, f3, f4⟩ := cells5 hb
  have hcv : (convert 45 9 (.slice ao L.length c)).run Try.prog w = .ok (.string ⟨L.toArray⟩) w := by
    rcases hr.form with ⟨h1, rfl⟩ | ⟨b', c', cur, h1, h2, _, _, _, _, h7⟩
    · injection h1 with h1 _ h3
      subst h1
      exact run_convert_bytes_nil w 45 5 Try.underlying45 Try.underlying5 _ _ 9 Try.underlying9
    · injection h1 with h1 _ h3
      subst h1
      have := run_convert_bytes_arg (P := Try.prog) w 45 5 Try.underlying45 Try.underlying5 b' 0 L.length c (L.map fun c => (c.toNat : Int)) (by rw [List.length_map]) (fun i hi => by
        rw [Nat.zero_add, cell_of_take h2 h7 hi (Nat.le_refl _), List.getD_eq_getElem?_getD, List.getElem?_map, List.getElem?_eq_getElem (by omega)]
        rfl) 9 Try.underlying9
      rw [strOfNums_bytes] at this
      exact this
  clear hb hr hS hrd
  go_enter Try.func18, Try.ntmps18
  go_wp2
  go_ret
  exact ⟨rfl, rfl⟩
set_option maxHeartbeats 400000 in
theorem disk_down (g : Nat) (L : List UInt8) (a sz bo : Nat) (dn : Bool) (S : Nat → Prop) (w : World) (h : IsDr g L a sz dn bo S w) :
    Calls Try.prog 23 #[.pointer (some ⟨g, 0, none⟩)] w fun e w' => e = .returned (.bool dn) ∧ w = w' := by
  obtain ⟨v, hb, hr, hS⟩ := h
  obtain ⟨c0, c1, c2, c3, c4, f0, f1, f2, f3, f4⟩ := cells5 hb
  clear hb hr hS
  go_enter Try.func23, Try.ntmps23
  go_wp2
  go_ret
  exact ⟨rfl, rfl⟩
set_option maxHeartbeats 400000 in
theorem disk_safe (g : Nat) (L : List UInt8) (a sz bo : Nat) (dn : Bool) (S : Nat → Prop) (w : World) (h : IsDr g L a sz dn bo S w) :
    Calls Try.prog 24 #[.pointer (some ⟨g, 0, none⟩)] w fun e w' => e = .returned (.int .i64 (a : Int)) ∧ w = w' := by
  obtain ⟨v, hb, hr, hS⟩ := h
  obtain ⟨c0, c1, c2, c3, c4, f0, f1, f2, f3, f4⟩ := cells5 hb
  clear hb hr hS
  go_enter Try.func24, Try.ntmps24
  go_wp2
  go_ret
  exact ⟨rfl, rfl⟩
set_option maxHeartbeats 400000 in
theorem disk_boots (g : Nat) (L : List UInt8) (a sz bo : Nat) (dn : Bool) (S : Nat → Prop) (w : World) (h : IsDr g L a sz dn bo S w) :
    Calls Try.prog 28 #[.pointer (some ⟨g, 0, none⟩)] w fun e w' => e = .returned (.int .i64 (bo : Int)) ∧ w = w' := by
  obtain ⟨v, hb, hr, hS⟩ := h
  obtain ⟨c0, c1, c2, c3, c4, f0, f1, f2, f3, f4⟩ := cells5 hb
  clear hb hr hS
  go_enter Try.func28, Try.ntmps28
  go_wp2
  go_ret
  exact ⟨rfl, rfl⟩
set_option maxHeartbeats 400000 in
theorem disk_left (g : Nat) (L : List UInt8) (a sz bo : Nat) (dn : Bool) (S : Nat → Prop) (w : World) (h : IsDr g L a sz dn bo S w) (hsz : sz ≤ 262144) (hL : L.length ≤ sz) :
    Calls Try.prog 19 #[.pointer (some ⟨g, 0, none⟩)] w fun e w' => e = .returned (.int .i64 ((sz : Int) - (L.length : Int))) ∧ Upd S (IsDr g L a sz dn bo) w w' := by
  have HK := Lib.hid h
  obtain ⟨v, hb, hr, hS⟩ := h
  obtain ⟨ao, c, rfl, _⟩ := hr.read
  obtain ⟨c0, c1, c2, c3, c4, f0, f1, f2, f3, f4⟩ := cells5 hb
  clear hb hr hS
  go_enter Try.func19, Try.ntmps19
  go_wp2_with fail
  go_quiet (fail)
  go_wp2
  go_ret
  exact ⟨rfl, S, (IsDr.local g L a sz dn bo).keep _ _ _ HK.out (fun k _ => rfl), (Step.refl S w).drewN _, fun k hk => .inl hk⟩

/-! ### None -/
set_option maxHeartbeats 400000 in
theorem disk_nil_append (s : ByteArray) (w : World) : Calls Try.prog 20 #[.pointer none, .string s] w fun e w' => e = .returned (.int .i64 2) ∧ w = w' := by
  go_enter Try.func20, Try.ntmps20
  go_wp2
  go_ret
  exact ⟨rfl, rfl⟩
set_option maxHeartbeats 400000 in
theorem disk_nil_sync (w : World) : Calls Try.prog 26 #[.pointer none] w fun e w' => e = .returned (.int .i64 2) ∧ w = w' := by
  go_enter Try.func26, Try.ntmps26
  go_wp2
  go_ret
  exact ⟨rfl, rfl⟩
set_option maxHeartbeats 400000 in
theorem disk_nil_trim (n : Int) (w : World) : Calls Try.prog 27 #[.pointer none, .int .i64 n] w fun e w' => e = .returned (.int .i64 2) ∧ w = w' := by
  go_enter Try.func27, Try.ntmps27
  go_wp2
  go_ret
  exact ⟨rfl, rfl⟩
set_option maxHeartbeats 400000 in
theorem disk_nil_read (w : World) : Calls Try.prog 18 #[.pointer none] w fun e w' => e = .returned (.string ⟨#[]⟩) ∧ w = w' := by
  go_enter Try.func18, Try.ntmps18
  go_wp2
  go_ret
  exact ⟨rfl, rfl⟩
set_option maxHeartbeats 400000 in
theorem disk_nil_down (w : World) : Calls Try.prog 23 #[.pointer none] w fun e w' => e = .returned (.bool false) ∧ w = w' := by
  go_enter Try.func23, Try.ntmps23
  go_wp2
  go_ret
  exact ⟨rfl, rfl⟩
set_option maxHeartbeats 400000 in
theorem disk_nil_nums (w : World) : (Calls Try.prog 24 #[.pointer none] w fun e w' => e = .returned (.int .i64 0) ∧ w = w') ∧
    (Calls Try.prog 19 #[.pointer none] w fun e w' => e = .returned (.int .i64 0) ∧ w = w') ∧
    (Calls Try.prog 28 #[.pointer none] w fun e w' => e = .returned (.int .i64 0) ∧ w = w') := by
  refine ⟨?_, ?_, ?_⟩
  · go_enter Try.func24, Try.ntmps24
    go_wp2
    go_ret
    exact ⟨rfl, rfl⟩
  · go_enter Try.func19, Try.ntmps19
    go_wp2
    go_ret
    exact ⟨rfl, rfl⟩
  · go_enter Try.func28, Try.ntmps28
    go_wp2
    go_ret
    exact ⟨rfl, rfl⟩
set_option maxHeartbeats 400000 in
theorem disk_nil_off (n : Int) (x : Int) (w : World) : Calls Try.prog 22 #[.pointer none, .int .i64 n, .int .u8 x] w fun e w' => e = .returned (.tuple #[]) ∧ w = w' := by
  go_enter Try.func22, Try.ntmps22
  go_wp2
  refine bodyPost_ret (results_none rfl _ _ _) rfl ?_
  exact ⟨rfl, rfl⟩
set_option maxHeartbeats 400000 in
theorem disk_nil_on (w : World) : Calls Try.prog 17 #[.pointer none] w fun e w' => e = .returned (.tuple #[]) ∧ w = w' := by
  go_enter Try.func17, Try.ntmps17
  go_wp2
  go_end0
  exact ⟨rfl, rfl⟩

end Go.Proofs.Ythdhcllljmkamaa
