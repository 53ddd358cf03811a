/- The walks of the disk's reference. -/
import Derived.Test.YthdhcllljmkamaaProg
import Derived.Test.YthdhcllljmkamaaDisk
import Derived.BigRegion
namespace Go.Proofs.Ythdhcllljmkamaa
open Go.RowKit
set_option linter.unusedVariables false

abbrev mCells (sf ls : ByteArray) (sz : Nat) (dn : Bool) (bo : Nat) : Array Value := #[.string sf, .string ls, .int .i64 (sz : Int), .bool dn, .int .i64 (bo : Int)]
def IsMr (g : Nat) (sf ls : ByteArray) (sz : Nat) (dn : Bool) (bo : Nat) : Asr := fun S w => Blk w g 38 (mCells sf ls sz dn bo) ∧ ∀ k, S k ↔ k = g
theorem IsMr.local (g : Nat) (sf ls : ByteArray) (sz : Nat) (dn : Bool) (bo : Nat) : LocalA (IsMr g sf ls sz dn bo) := by
  refine ⟨?_, ?_⟩
  · rintro S w w' ⟨h1, h3⟩ hk
    exact ⟨h1.keep (hk g ((h3 g).2 rfl)), h3⟩
  · rintro S w k ⟨h1, h3⟩ hk
    rw [(h3 k).1 hk]
    exact h1.lt
theorem IsMr.done {g : Nat} {sf ls : ByteArray} {sz : Nat} {dn : Bool} {bo : Nat} {S : Nat → Prop} {w w' : World} (hS : ∀ k, S k ↔ k = g) (hst : Step (fun k => k = g) w w')
    (hb : Blk w' g 38 (mCells sf ls sz dn bo)) : Upd S (IsMr g sf ls sz dn bo) w w' :=
  ⟨S, ⟨hb, hS⟩, hst.mono (fun k hk => (hS k).2 hk), fun k hk => .inl hk⟩

set_option maxHeartbeats 400000 in
theorem ref_new (n : Int) (w : World) :
    Calls Try.prog 15 #[.int .i64 n] w fun e w' => e = .returned (.pointer (some ⟨w.heap.size, 0, none⟩)) ∧ Fr w w' ∧ IsMr w.heap.size ⟨#[]⟩ ⟨#[]⟩ (min (max n 0) 262144).toNat false 1 (fun k => k = w.heap.size) w' := by
  rcases (show n < 0 ∨ (0 ≤ n ∧ n ≤ 262144) ∨ (0 ≤ n ∧ 262144 < n) by omega) with h | ⟨h, h2⟩ | ⟨h, h2⟩
  all_goals
    go_enter Try.func15, Try.ntmps15
    go_wp2
    go_ret
    refine ⟨rfl, (Fr.refl w).alloc _, ?_, fun k => Iff.rfl⟩
    unfold mCells
    first
    | (rw [show ((min (max n 0) 262144).toNat : Int) = 0 by omega]; exact Blk.new w _ _)
    | (rw [show ((min (max n 0) 262144).toNat : Int) = 262144 by omega]; exact Blk.new w _ _)
    | (rw [show ((min (max n 0) 262144).toNat : Int) = n by omega]; exact Blk.new w _ _)

set_option maxHeartbeats 400000 in
theorem ref_append_down (g : Nat) (sf ls : ByteArray) (sz bo : Nat) (s : ByteArray) (S : Nat → Prop) (w : World) (h : IsMr g sf ls sz true bo S w) :
    Calls Try.prog 40 #[.pointer (some ⟨g, 0, none⟩), .string s] w fun e w' => e = .returned (.int .i64 7) ∧ w = w' := by
  obtain ⟨hb, hS⟩ := h
  obtain ⟨c0, c1, c2, c3, c4, f0, f1, f2, f3, f4⟩ := cells5 hb
  clear hb hS
  go_enter Try.func40, Try.ntmps40
  go_wp2
  go_ret
  exact ⟨rfl, rfl⟩
set_option maxHeartbeats 400000 in
theorem ref_append_full (g : Nat) (sf ls : ByteArray) (sz bo : Nat) (s : ByteArray) (S : Nat → Prop) (w : World) (h : IsMr g sf ls sz false bo S w) (hs : s.size ≤ 140737488351232) (hsz : sz ≤ 262144) (hL : sf.size + ls.size ≤ sz) (hf : sz < sf.size + ls.size + s.size) :
    Calls Try.prog 40 #[.pointer (some ⟨g, 0, none⟩), .string s] w fun e w' => e = .returned (.int .i64 6) ∧ Upd S (IsMr g sf ls sz false bo) w w' := by
  obtain ⟨hb, hS⟩ := h
  obtain ⟨c0, c1, c2, c3, c4, f0, f1, f2, f3, f4⟩ := cells5 hb
  have k1 : IntKind.i64.wrap ((sf.size : Int) + (ls.size : Int)) = (sf.size : Int) + (ls.size : Int) := IntWalk.i64_in _ (by omega)
  have k2 : IntKind.i64.wrap ((sf.size : Int) + (ls.size : Int) + (s.size : Int)) = (sf.size : Int) + (ls.size : Int) + (s.size : Int) := IntWalk.i64_in _ (by omega)
  have k3 : decide ((sz : Int) < (sf.size : Int) + (ls.size : Int) + (s.size : Int)) = true := by simp; omega
  have HB := Lib.hid hb
  have HS := Lib.hid hS
  clear hb hS
  go_enter Try.func40, Try.ntmps40
  go_wp2_with fail
  go_quiet (fail)
  go_wp2
  go_ret
  exact ⟨rfl, IsMr.done HS.out ((Step.refl _ w).drewN _) HB.out⟩
set_option maxHeartbeats 400000 in
theorem ref_append_ok (g : Nat) (sf ls : ByteArray) (sz bo : Nat) (s : ByteArray) (S : Nat → Prop) (w : World) (h : IsMr g sf ls sz false bo S w) (hsz : sz ≤ 262144) (hf : sf.size + ls.size + s.size ≤ sz) :
    Calls Try.prog 40 #[.pointer (some ⟨g, 0, none⟩), .string s] w fun e w' => e = .returned (.int .i64 0) ∧ Upd S (IsMr g sf (ls ++ s) sz false bo) w w' := by
  obtain ⟨hb, hS⟩ := h
  obtain ⟨c0, c1, c2, c3, c4, f0, f1, f2, f3, f4⟩ := cells5 hb
  have k1 : IntKind.i64.wrap ((sf.size : Int) + (ls.size : Int)) = (sf.size : Int) + (ls.size : Int) := IntWalk.i64_in _ (by omega)
  have k2 : IntKind.i64.wrap ((sf.size : Int) + (ls.size : Int) + (s.size : Int)) = (sf.size : Int) + (ls.size : Int) + (s.size : Int) := IntWalk.i64_in _ (by omega)
  have k3 : decide ((sz : Int) < (sf.size : Int) + (ls.size : Int) + (s.size : Int)) = false := by simp; omega
  have HB := Lib.hid hb
  have HS := Lib.hid hS
  clear hb hS
  go_enter Try.func40, Try.ntmps40
  go_wp2_with fail
  go_quiet (fail)
  clear k1 k2 k3
  go_wp2
  go_ret
  exact ⟨rfl, IsMr.done HS.out (((Step.refl _ w).drewN _).set1 1 _) (Blk.set_ (w := w.drewN _) HB.out 1 _)⟩

set_option maxHeartbeats 400000 in
theorem ref_sync_down (g : Nat) (sf ls : ByteArray) (sz bo : Nat) (S : Nat → Prop) (w : World) (h : IsMr g sf ls sz true bo S w) :
    Calls Try.prog 41 #[.pointer (some ⟨g, 0, none⟩)] w fun e w' => e = .returned (.int .i64 7) ∧ w = w' := by
  obtain ⟨hb, hS⟩ := h
  obtain ⟨c0, c1, c2, c3, c4, f0, f1, f2, f3, f4⟩ := cells5 hb
  clear hb hS
  go_enter Try.func41, Try.ntmps41
  go_wp2
  go_ret
  exact ⟨rfl, rfl⟩
set_option maxHeartbeats 400000 in
theorem ref_sync_ok (g : Nat) (sf ls : ByteArray) (sz bo : Nat) (S : Nat → Prop) (w : World) (h : IsMr g sf ls sz false bo S w) (hL : sf.size + ls.size ≤ 262144) :
    Calls Try.prog 41 #[.pointer (some ⟨g, 0, none⟩)] w fun e w' => e = .returned (.int .i64 0) ∧ Upd S (IsMr g (sf ++ ls) ⟨#[]⟩ sz false bo) w w' := by
  obtain ⟨hb, hS⟩ := h
  obtain ⟨c0, c1, c2, c3, c4, f0, f1, f2, f3, f4⟩ := cells5 hb
  have HB := Lib.hid hb
  have HS := Lib.hid hS
  clear hb hS
  go_enter Try.func41, Try.ntmps41
  go_wp2_with fail
  have k1 : ¬ 9223372036854775807 < sf.size + ls.size := by omega
  go_still_tail 12, (by kernel_rfl)
  change wpList _ _ _ _ _ w.drew
  clear k1
  go_wp2
  go_ret
  exact ⟨rfl, IsMr.done HS.out ((((Step.refl _ w).set1 0 _).set1 1 _).drew) ((HB.out.set_ 0 _).set_ 1 _)⟩

set_option maxHeartbeats 400000 in
theorem ref_trim_down (g : Nat) (sf ls : ByteArray) (sz bo : Nat) (n : Int) (S : Nat → Prop) (w : World) (h : IsMr g sf ls sz true bo S w) :
    Calls Try.prog 42 #[.pointer (some ⟨g, 0, none⟩), .int .i64 n] w fun e w' => e = .returned (.int .i64 7) ∧ w = w' := by
  obtain ⟨hb, hS⟩ := h
  obtain ⟨c0, c1, c2, c3, c4, f0, f1, f2, f3, f4⟩ := cells5 hb
  clear hb hS
  go_enter Try.func42, Try.ntmps42
  go_wp2
  go_ret
  exact ⟨rfl, rfl⟩
set_option maxHeartbeats 400000 in
theorem ref_trim_arg (g : Nat) (sf ls : ByteArray) (sz bo : Nat) (n : Int) (S : Nat → Prop) (w : World) (h : IsMr g sf ls sz false bo S w) (hL : sf.size + ls.size ≤ 262144) (hn : n < 0 ∨ ((sf.size + ls.size : Nat) : Int) < n) :
    Calls Try.prog 42 #[.pointer (some ⟨g, 0, none⟩), .int .i64 n] w fun e w' => e = .returned (.int .i64 1) ∧ Upd S (IsMr g sf ls sz false bo) w w' := by
  obtain ⟨hb, hS⟩ := h
  obtain ⟨c0, c1, c2, c3, c4, f0, f1, f2, f3, f4⟩ := cells5 hb
  have HB := Lib.hid hb
  have HS := Lib.hid hS
  clear hb hS
  rcases (show n < 0 ∨ (0 ≤ n ∧ (sf.size : Int) + (ls.size : Int) < n) by omega) with h | ⟨h, h2⟩
  all_goals
    clear hn
    go_enter Try.func42, Try.ntmps42
    go_wp2_with fail
    go_quiet (fail)
    go_wp2
    go_ret
    exact ⟨rfl, IsMr.done HS.out ((Step.refl _ w).drewN _) HB.out⟩
set_option maxHeartbeats 400000 in
theorem ref_trim_ok (g : Nat) (sf ls : ByteArray) (sz bo n : Nat) (S : Nat → Prop) (w : World) (h : IsMr g sf ls sz false bo S w) (hL : sf.size + ls.size ≤ 262144) (hn : n ≤ sf.size + ls.size) :
    Calls Try.prog 42 #[.pointer (some ⟨g, 0, none⟩), .int .i64 n] w fun e w' => e = .returned (.int .i64 0) ∧ Upd S (IsMr g ((sf ++ ls).extract 0 n) ⟨#[]⟩ sz false bo) w w' := by
  obtain ⟨hb, hS⟩ := h
  obtain ⟨c0, c1, c2, c3, c4, f0, f1, f2, f3, f4⟩ := cells5 hb
  have HB := Lib.hid hb
  have HS := Lib.hid hS
  clear hb hS
  go_enter Try.func42, Try.ntmps42
  go_wp2_with fail
  go_quiet (fail)
  go_wp2
  go_ret
  exact ⟨rfl, IsMr.done HS.out ((((Step.refl _ w).drewN _).set1 0 _).set1 1 _) (Blk.set_ (Blk.set_ (w := w.drewN _) HB.out 0 _) 1 _)⟩

set_option maxHeartbeats 400000 in
theorem ref_off_down (g : Nat) (sf ls : ByteArray) (sz bo : Nat) (n : Int) (x : UInt8) (S : Nat → Prop) (w : World) (h : IsMr g sf ls sz true bo S w) :
    Calls Try.prog 43 #[.pointer (some ⟨g, 0, none⟩), .int .i64 n, .int .u8 x.toNat] w fun e w' => e = .returned (.tuple #[]) ∧ w = w' := by
  obtain ⟨hb, hS⟩ := h
  obtain ⟨c0, c1, c2, c3, c4, f0, f1, f2, f3, f4⟩ := cells5 hb
  clear hb hS
  go_enter Try.func43, Try.ntmps43
  go_wp2
  refine bodyPost_ret (results_none rfl _ _ _) rfl ?_
  exact ⟨rfl, rfl⟩
/-- What is left of the loose bytes. -/
def offB (ls : ByteArray) (m : Nat) (x : UInt8) : ByteArray := ⟨(turnLast (ls.data.toList.take m) x).toArray⟩
theorem offB_zero (ls : ByteArray) (x : UInt8) : offB ls 0 x = ⟨#[]⟩ := by simp [offB, turnLast]
theorem offB_pos (ls : ByteArray) (m : Nat) (x : UInt8) (hm : 0 < m) (h : m ≤ ls.size) (y : UInt8) (hy : y = ls.data.toList[m - 1]'(by simp; omega)) :
    offB ls m x = (ls.extract 0 m).extract 0 (m - 1) ++ strOfNums [((y ^^^ x).toNat : Int)] := by
  apply ba_ext
  rw [ba_append, ba_head, ba_head, List.take_take, Nat.min_eq_left (by omega)]
  have hl : (ls.data.toList.take m).length = m := by rw [List.length_take, ba_len]; omega
  unfold offB turnLast
  rw [hl, modify_set _ _ _ (by omega)]
  show ((ls.data.toList.take m).set (m - 1) _) = _
  have h1 : ls.data.toList.take m = ls.data.toList.take (m - 1) ++ [y] := by
    have := List.take_succ_eq_append_getElem (l := ls.data.toList) (i := m - 1) (by simp; omega)
    rw [show m - 1 + 1 = m by omega] at this
    rw [this, hy]
  have h2 : (ls.data.toList.take m)[m - 1]'(by omega) = y := by rw [hy, List.getElem_take]
  rw [h2, h1, List.set_append_right _ _ (by rw [List.length_take, ba_len]; omega), List.length_take, ba_len, Nat.min_eq_left (by omega), Nat.sub_self, strOfNums_data]
  congr 1
  simp

set_option maxHeartbeats 1000000 in
theorem ref_off_ok (g : Nat) (sf ls : ByteArray) (sz bo m : Nat) (n : Int) (x : UInt8) (S : Nat → Prop) (w : World) (h : IsMr g sf ls sz false bo S w) (hL : ls.size ≤ 262144) (hn : min (max n 0) ls.size = m) :
    Calls Try.prog 43 #[.pointer (some ⟨g, 0, none⟩), .int .i64 n, .int .u8 x.toNat] w fun e w' => e = .returned (.tuple #[]) ∧ Upd S (IsMr g sf (offB ls m x) sz true bo) w w' := by
  have hcv : ∀ (w : World) (a : Int), (convert 45 9 (.slice (some ⟨w.heap.size, 0, none⟩) 1 1)).run Try.prog (w.alloc (.cells #[.int .u8 a] 5)).drew = .ok (.string (strOfNums [a])) (w.alloc (.cells #[.int .u8 a] 5)).drew :=
    fun w a => conv_new1 (P := Try.prog) Try.underlying45 Try.underlying5 Try.underlying9 w.drew a
  obtain ⟨hb, hS⟩ := h
  obtain ⟨c0, c1, c2, c3, c4, f0, f1, f2, f3, f4⟩ := cells5 hb
  have HB := Lib.hid hb
  have HS := Lib.hid hS
  have HNM := Lib.hid hn
  have hm : m ≤ ls.size := by omega
  clear hb hS hn
  by_cases hm0 : m = 0
  · subst hm0
    rw [offB_zero]
    have hcase : n < 0 ∨ n = 0 ∨ (0 < n ∧ ls.size = 0) := by have := HNM.out; have := ls.size; omega
    have he : ∀ k, k = 0 ∨ ls.size = 0 → ls.extract 0 k = ⟨#[]⟩ := by
      intro k hk
      apply ba_ext
      rw [ba_head]
      rcases hk with rfl | h
      · rfl
      · have : ls.data.toList = [] := List.eq_nil_of_length_eq_zero (by rw [ba_len]; exact h)
        rw [this]; simp
    have HE := Lib.hid he
    clear he hm
    rcases hcase with h | rfl | ⟨h, h2⟩
    · go_enter Try.func43, Try.ntmps43
      go_wp2
      go_end0
      exact ⟨rfl, IsMr.done HS.out (((Step.refl _ w).set1 3 _).set1 1 _) ((HB.out.set_ 3 _).set_ 1 _)⟩
    · go_enter Try.func43, Try.ntmps43
      go_wp2
      go_end0
      exact ⟨rfl, IsMr.done HS.out (((Step.refl _ w).set1 3 _).set1 1 _) ((HB.out.set_ 3 _).set_ 1 _)⟩
    · have H2 := Lib.hid h2
      have h3 : decide ((ls.size : Int) < n) = true := decide_eq_true (show (ls.size : Int) < n by omega)
      have h4 : decide (0 < (ls.size : Int)) = false := decide_eq_false (show ¬ 0 < (ls.size : Int) by omega)
      have h5 : (ls.size : Int) ≤ 0 := by omega
      clear h2
      go_enter Try.func43, Try.ntmps43
      go_wp2
      go_end0
      obtain rfl : ls = ⟨#[]⟩ := ba_ext (List.eq_nil_of_length_eq_zero (by rw [ba_len]; exact H2.out))
      exact ⟨rfl, IsMr.done HS.out (((Step.refl _ w).set1 3 _).set1 1 _) ((HB.out.set_ 3 _).set_ 1 _)⟩
  · have hm1 : 0 < m := by omega
    clear hm0
    obtain ⟨y, hy⟩ : ∃ y, y = ls.data.toList[m - 1]'(by simp; omega) := ⟨_, rfl⟩
    have HO := Lib.hid (offB_pos ls m x hm1 hm y hy)
    have hcase : (0 ≤ n ∧ n ≤ ls.size ∧ n = m) ∨ ((ls.size : Int) < n ∧ m = ls.size) := by have := HNM.out; omega
    rcases hcase with ⟨h, h2, rfl⟩ | ⟨h, rfl⟩
    · go_enter Try.func43, Try.ntmps43
      go_wp2_with fail
      have hl2z : (ls.extract 0 m).size = m := by rw [ByteArray.size_extract]; omega
      have hy2 : ∀ h, (ls.extract 0 m)[m - 1]'h = y := by
        intro h
        rw [hy]
        show (ls.extract 0 m).data[m - 1]'_ = _
        simp [ByteArray.data_extract]
      have HY := Lib.hid hy2
      clear hy2
      generalize ls.extract 0 m = l2 at HO HY hl2z ⊢
      have hb5 : Blk ((w.setCell ⟨g, 3, none⟩ (.bool true)).setCell ⟨g, 1, none⟩ (.string l2)) g 38 (mCells sf l2 sz true bo) := (HB.out.set_ 3 _).set_ 1 _
      have hs5 : Step (fun k => k = g) w ((w.setCell ⟨g, 3, none⟩ (.bool true)).setCell ⟨g, 1, none⟩ (.string l2)) := ((Step.refl _ w).set1 3 _).set1 1 _
      clear c0 c1 c2 c3 c4 f0 f1 f2 f3 f4
      generalize (w.setCell ⟨g, 3, none⟩ (.bool true)).setCell ⟨g, 1, none⟩ (.string l2) = w5 at hb5 hs5 ⊢
      obtain ⟨c0, c1, c2, c3, c4, f0, f1, f2, f3, f4⟩ := cells5 hb5
      have HB5 := Lib.hid hb5
      have HS5 := Lib.hid hs5
      clear hb5 hs5
      have k1 : (((m : Nat) : Int) - 1).toNat = m - 1 := by omega
      have k2 : 0 ≤ ((m : Nat) : Int) - 1 := by omega
      have k3 : 1 ≤ ((m : Nat) : Int) := by omega
      have k4 : m - 1 < (l2).size := by omega
      have k5 : ((m : Nat) : Int) - 1 < ((l2).size : Int) := by omega
      have k6 : ((m : Nat) : Int) - 1 ≤ ((l2).size : Int) := by omega
      have k7 : IntKind.i64.wrap (((m : Nat) : Int) - 1) = ((m : Nat) : Int) - 1 := IntWalk.i64_in _ (by omega)
      have HL2Z := Lib.hid hl2z
      clear hl2z
      have k8 : ∀ a, ¬ 9223372036854775807 < min (m - 1) l2.size + (strOfNums [a]).size := fun a => by
        have : (strOfNums [a]).size = 1 := rfl
        omega
      have hg : g < w5.heap.size := HB5.out.lt
      have hg2 : ∀ o, (w5.alloc o).cell? ⟨g, 1, none⟩ = some (.string l2) := fun o => (World.cell?_alloc_lt w5 o ⟨g, 1, none⟩ hg).trans c1
      have hf2 : ∀ o, (w5.alloc o).frozen? ⟨g, 1, none⟩ = false := fun o => by
        have e : (w5.alloc o).heap[g]? = w5.heap[g]? := Lib.alloc_old w5 o g hg
        simp only [World.frozen?, e]
        exact f1
      go_region
      all_goals
        go_wp2
        go_end0
        rw [HY.out, u8_xor_val]
        rw [HO.out]
        have hset := HB5.out.set_ 1 (.string (l2.extract 0 (m - 1) ++ strOfNums [((y ^^^ x).toNat : Int)]))
        exact ⟨rfl, IsMr.done HS.out (((HS5.out.set1 1 _).alloc _).drew) ((Lib.alloc_old _ _ g (Blk.lt hset)).trans hset)⟩
    · go_enter Try.func43, Try.ntmps43
      go_wp2_with fail
      have hll : ls.extract 0 ls.size = ls := ba_ext (by rw [ba_head]; exact List.take_of_length_le (by rw [ba_len]; exact Nat.le_refl _))
      rw [hll] at HO
      have hy2 : ∀ h, ls[ls.size - 1]'h = y := fun h => hy.symm
      have HY := Lib.hid hy2
      clear hy2
      clear hll
      have hb5 : Blk ((w.setCell ⟨g, 3, none⟩ (.bool true)).setCell ⟨g, 1, none⟩ (.string ls)) g 38 (mCells sf ls sz true bo) := (HB.out.set_ 3 _).set_ 1 _
      have hs5 : Step (fun k => k = g) w ((w.setCell ⟨g, 3, none⟩ (.bool true)).setCell ⟨g, 1, none⟩ (.string ls)) := ((Step.refl _ w).set1 3 _).set1 1 _
      clear c0 c1 c2 c3 c4 f0 f1 f2 f3 f4
      generalize (w.setCell ⟨g, 3, none⟩ (.bool true)).setCell ⟨g, 1, none⟩ (.string ls) = w5 at hb5 hs5 ⊢
      obtain ⟨c0, c1, c2, c3, c4, f0, f1, f2, f3, f4⟩ := cells5 hb5
      have HB5 := Lib.hid hb5
      have HS5 := Lib.hid hs5
      clear hb5 hs5
      have k1 : (((ls.size : Nat) : Int) - 1).toNat = ls.size - 1 := by omega
      have k2 : 0 ≤ ((ls.size : Nat) : Int) - 1 := by omega
      have k3 : 1 ≤ ((ls.size : Nat) : Int) := by omega
      have k4 : ls.size - 1 < (ls).size := by omega
      have k5 : ((ls.size : Nat) : Int) - 1 < ((ls).size : Int) := by omega
      have k6 : ((ls.size : Nat) : Int) - 1 ≤ ((ls).size : Int) := by omega
      have k7 : IntKind.i64.wrap (((ls.size : Nat) : Int) - 1) = ((ls.size : Nat) : Int) - 1 := IntWalk.i64_in _ (by omega)
      have k8 : ∀ a, ¬ 9223372036854775807 < ls.size - 1 + (strOfNums [a]).size := fun a => by
        have : (strOfNums [a]).size = 1 := rfl
        omega
      have hg : g < w5.heap.size := HB5.out.lt
      have hg2 : ∀ o, (w5.alloc o).cell? ⟨g, 1, none⟩ = some (.string ls) := fun o => (World.cell?_alloc_lt w5 o ⟨g, 1, none⟩ hg).trans c1
      have hf2 : ∀ o, (w5.alloc o).frozen? ⟨g, 1, none⟩ = false := fun o => by
        have e : (w5.alloc o).heap[g]? = w5.heap[g]? := Lib.alloc_old w5 o g hg
        simp only [World.frozen?, e]
        exact f1
      go_region
      all_goals
        go_wp2
        go_end0
        rw [HY.out, u8_xor_val]
        rw [HO.out]
        have hset := HB5.out.set_ 1 (.string (ls.extract 0 (ls.size - 1) ++ strOfNums [((y ^^^ x).toNat : Int)]))
        exact ⟨rfl, IsMr.done HS.out (((HS5.out.set1 1 _).alloc _).drew) ((Lib.alloc_old _ _ g (Blk.lt hset)).trans hset)⟩

set_option maxHeartbeats 400000 in
theorem ref_on_up (g : Nat) (sf ls : ByteArray) (sz bo : Nat) (S : Nat → Prop) (w : World) (h : IsMr g sf ls sz false bo S w) :
    Calls Try.prog 21 #[.pointer (some ⟨g, 0, none⟩)] w fun e w' => e = .returned (.tuple #[]) ∧ w = w' := by
  obtain ⟨hb, hS⟩ := h
  obtain ⟨c0, c1, c2, c3, c4, f0, f1, f2, f3, f4⟩ := cells5 hb
  clear hb hS
  go_enter Try.func21, Try.ntmps21
  go_wp2
  refine bodyPost_ret (results_none rfl _ _ _) rfl ?_
  exact ⟨rfl, rfl⟩
set_option maxHeartbeats 400000 in
theorem ref_on_down (g : Nat) (sf ls : ByteArray) (sz bo : Nat) (S : Nat → Prop) (w : World) (h : IsMr g sf ls sz true bo S w) (hL : sf.size + ls.size ≤ 262144) (hbo : bo ≤ 1000000) :
    Calls Try.prog 21 #[.pointer (some ⟨g, 0, none⟩)] w fun e w' => e = .returned (.tuple #[]) ∧ Upd S (IsMr g (sf ++ ls) ⟨#[]⟩ sz false (bo + 1)) w w' := by
  obtain ⟨hb, hS⟩ := h
  obtain ⟨c0, c1, c2, c3, c4, f0, f1, f2, f3, f4⟩ := cells5 hb
  have HB := Lib.hid hb
  have HS := Lib.hid hS
  clear hb hS
  have k1 : ¬ 9223372036854775807 < sf.size + ls.size := by omega
  go_enter Try.func21, Try.ntmps21
  go_wp2_with fail
  have hb5 : Blk ((w.setCell ⟨g, 3, none⟩ (.bool false)).setCell ⟨g, 4, none⟩ (.int .i64 ((bo : Int) + 1))) g 38 (mCells sf ls sz false (bo + 1)) := (HB.out.set_ 3 _).set_ 4 _
  have hs5 : Step (fun k => k = g) w ((w.setCell ⟨g, 3, none⟩ (.bool false)).setCell ⟨g, 4, none⟩ (.int .i64 ((bo : Int) + 1))) := ((Step.refl _ w).set1 3 _).set1 4 _
  clear c0 c1 c2 c3 c4 f0 f1 f2 f3 f4
  generalize (w.setCell ⟨g, 3, none⟩ (.bool false)).setCell ⟨g, 4, none⟩ (.int .i64 ((bo : Int) + 1)) = w5 at hb5 hs5 ⊢
  obtain ⟨c0, c1, c2, c3, c4, f0, f1, f2, f3, f4⟩ := cells5 hb5
  have HB5 := Lib.hid hb5
  have HS5 := Lib.hid hs5
  clear hb5 hs5
  go_still_tail 12, (by kernel_rfl)
  change wpList _ _ _ _ _ w5.drew
  go_wp2
  go_end0
  exact ⟨rfl, IsMr.done HS.out ((((HS5.out).set1 0 _).set1 1 _).drew) ((HB5.out.set_ 0 _).set_ 1 _)⟩

end Go.Proofs.Ythdhcllljmkamaa
