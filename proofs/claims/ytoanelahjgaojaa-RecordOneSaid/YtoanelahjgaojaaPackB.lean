/- The walks of strings.Builder inside a pack.Writer: copyCheck, WriteByte, WriteString, String. -/
import Derived.Test.YtoanelahjgaojaaProg
import Derived.Test.YtoanelahjgaojaaAppS
import Derived.Lib.UnsafeStr
import Derived.Lib.FrozenHead
import Derived.Lib.Builder
import Derived.Maps.AppendAt
import Derived.Lib.AppendStr
namespace Go.Proofs.Ytoanelahjgaojaa
open Go.RowKit
set_option linter.unusedVariables false
set_option maxRecDepth 100000

theorem infoByte : (Try.prog.info? 5).map (fun i => (i.zero, i.size, i.bytes)) = some (some (.int .u8 0), 1, 1) := by kernel_rfl
theorem infoBuilder : (Try.prog.info? 39).map (fun i => i.size) = some 2 := by kernel_rfl
theorem liesBuilder : liesAt Try.prog Try.prog.depth 41 (2 / Try.prog.cellsOf 41) 0 39 1 = true := by kernel_rfl
theorem cellsByte : Try.prog.cellsOf 5 = 1 := by kernel_rfl

/-- A writer in block g that holds these bytes; it may be written on. -/
def IsW (g : Nat) (bs : List UInt8) : Asr := fun S w => ∃ p v, w.heap[g]? = some (.cells #[.pointer p, v] 41 (0, 0)) ∧ (p = none ∨ p = some ⟨g, 0, none⟩) ∧
  w.ownsRow 0 5 1 v bs.length (Lib.byteCells bs) ∧ (∀ k, S k ↔ k = g ∨ some k = v.ownBlock)
/-- .. it may have been read. -/
def IsWF (g : Nat) (bs : List UInt8) : Asr := fun S w => ∃ p v, w.heap[g]? = some (.cells #[.pointer p, v] 41 (0, 0)) ∧ (p = none ∨ p = some ⟨g, 0, none⟩) ∧
  w.ownsRowF 0 5 1 v bs.length (Lib.byteCells bs) ∧ (∀ k, S k ↔ k = g ∨ some k = v.ownBlock)

theorem rowF_keep {w w' : World} {base : Nat} {e : TypeId} {size n : Nat} {v : Value} {xs : List Value} (h : w.ownsRowF base e size v n xs) (hk : ∀ k, v.ownBlock = some k → w'.heap[k]? = w.heap[k]?) : w'.ownsRowF base e size v n xs := by
  refine ⟨h.1, ?_⟩
  rcases h.2 with h0 | ⟨b, cap, cur, fz, rfl, hb, hg, rest⟩
  · exact .inl h0
  · exact .inr ⟨b, cap, cur, fz, rfl, hb, (hk b rfl).trans hg, rest⟩
theorem rowF_lt {w : World} {base : Nat} {e : TypeId} {size n : Nat} {v : Value} {xs : List Value} (h : w.ownsRowF base e size v n xs) : ∀ k, v.ownBlock = some k → k < w.heap.size := by
  intro k hk
  rcases h.2 with ⟨rfl, _⟩ | ⟨b, cap, cur, fz, rfl, hb, hg, rest⟩
  · simp [Value.ownBlock] at hk
  · simp [Value.ownBlock] at hk
    subst hk
    exact blk_lt hg
theorem IsW.local (g : Nat) (bs : List UInt8) : LocalA (IsW g bs) := by
  refine ⟨?_, ?_⟩
  · rintro S w w' ⟨p, v, h1, h2, h3, h4⟩ hk
    exact ⟨p, v, (hk g ((h4 g).2 (.inl rfl))).trans h1, h2, row_keep h3 (fun k h => hk k ((h4 k).2 (.inr h.symm))), h4⟩
  · rintro S w k ⟨p, v, h1, h2, h3, h4⟩ hk
    rcases (h4 k).1 hk with rfl | h
    · exact blk_lt h1
    · exact (h3.lt k h.symm).2
theorem IsWF.local (g : Nat) (bs : List UInt8) : LocalA (IsWF g bs) := by
  refine ⟨?_, ?_⟩
  · rintro S w w' ⟨p, v, h1, h2, h3, h4⟩ hk
    exact ⟨p, v, (hk g ((h4 g).2 (.inl rfl))).trans h1, h2, rowF_keep h3 (fun k h => hk k ((h4 k).2 (.inr h.symm))), h4⟩
  · rintro S w k ⟨p, v, h1, h2, h3, h4⟩ hk
    rcases (h4 k).1 hk with rfl | h
    · exact blk_lt h1
    · exact rowF_lt h3 k h.symm
theorem IsWF.of {g : Nat} {bs : List UInt8} {S : Nat → Prop} {w : World} (h : IsW g bs S w) : IsWF g bs S w :=
  let ⟨p, v, h1, h2, h3, h4⟩ := h
  ⟨p, v, h1, h2, World.ownsRowF_of h3, h4⟩

set_option maxHeartbeats 1000000 in
theorem copyCheck_used (b : Nat) (w : World) (h0 : w.cell? ⟨b, 0, none⟩ = some (.pointer (some ⟨b, 0, none⟩))) :
    Calls Try.prog 68 #[.pointer (some ⟨b, 0, none⟩)] w fun e w' => e = .returned (.tuple #[]) ∧ w = w' := by
  obtain ⟨j, hj, _⟩ := Option.map_eq_some_iff.1 infoBuilder
  go_enter Try.func68, Try.ntmps68
  go_wp2
  rw [Lib.run_neq_ptr_same w _ Try.underlying36 hj]
  go_wp2
  go_end0
  exact ⟨rfl, rfl⟩

set_option maxHeartbeats 1000000 in
theorem copyCheck_fresh (b : Nat) (v : Value) (w : World) (hb : w.heap[b]? = some (.cells #[.pointer none, v] 41 (0, 0))) :
    Calls Try.prog 68 #[.pointer (some ⟨b, 0, none⟩)] w fun e w' => e = .returned (.tuple #[]) ∧ w.setCell ⟨b, 0, none⟩ (.pointer (some ⟨b, 0, none⟩)) = w' := by
  obtain ⟨j, hj, hjs⟩ := Option.map_eq_some_iff.1 infoBuilder
  have h0 : w.cell? ⟨b, 0, none⟩ = some (.pointer none) := by rw [Lib.cell_of_heap hb]; rfl
  have hsh : w.shape? b = some (41, 2) := by simp [World.shape?, hb]
  have hfz : w.frozen? ⟨b, 0, none⟩ = false := Lib.frozen_of_heap hb 0
  clear hb
  go_enter Try.func68, Try.ntmps68
  go_wp2
  rw [Lib.run_to_unsafe w ⟨b, 0, none⟩ Try.underlying36 Try.underlying116 hj (by rw [hjs]; decide) hsh (Nat.zero_lt_succ 1)]
  simp only [Result.andThen]
  rw [Oper.upon_value]
  go_wp2
  rw [run_callFunc_extern Try.func69 (by kernel_rfl) (by kernel_rfl) (by kernel_rfl) (e := Extern.AbiNoEscape.same) (by kernel_rfl)]
  rw [Lib.run_noEscape]
  simp only [Result.andThen]
  rw [Oper.upon_value]
  go_wp2
  rw [Lib.run_from_unsafe w ⟨b, 0, none⟩ Try.underlying116 Try.underlying36 hj hsh liesBuilder]
  simp only [Result.andThen]
  rw [Oper.upon_value]
  go_wp2
  go_end0
  exact ⟨rfl, rfl⟩

/-- copyCheck: the writer's address is its own. -/
theorem copyCheck_any (g : Nat) (p : Option Addr) (v : Value) (w : World) (hb : w.heap[g]? = some (.cells #[.pointer p, v] 41 (0, 0))) (hp : p = none ∨ p = some ⟨g, 0, none⟩) :
    Calls Try.prog 68 #[.pointer (some ⟨g, 0, none⟩)] w fun e w' => e = .returned (.tuple #[]) ∧
      w'.heap[g]? = some (.cells #[.pointer (some ⟨g, 0, none⟩), v] 41 (0, 0)) ∧ Step (fun k => k = g) w w' := by
  rcases hp with rfl | rfl
  · refine (copyCheck_fresh g v w hb).mono ?_
    rintro e w' ⟨rfl, rfl⟩
    refine ⟨rfl, ?_, (Step.refl (fun k => k = g) _).setCell (p := ⟨g, 0, none⟩) rfl _⟩
    simp only [World.setCell, Array.getElem?_modify, hb]
    simp
  · refine (copyCheck_used g w (by rw [Lib.cell_of_heap hb]; rfl)).mono ?_
    rintro e w' ⟨rfl, rfl⟩
    exact ⟨rfl, hb, Step.refl _ _⟩

set_option maxHeartbeats 2000000 in
theorem writeByte (g : Nat) (bs : List UInt8) (c : UInt8) (S : Nat → Prop) (w : World) (h : IsW g bs S w) (hlen : bs.length + 1 ≤ 140737488355328) :
    Calls Try.prog 61 #[.pointer (some ⟨g, 0, none⟩), .int .u8 c.toNat] w fun e w' => e = .returned .nilIface ∧ Upd S (IsW g (bs ++ [c])) w w' := by
  obtain ⟨i0, hi, hz0, hz1, hz2⟩ := info_parts infoByte
  obtain ⟨p, v, hbk, hp, hown, hS⟩ := h
  have hHS := Lib.hid hS
  clear hS
  go_enter Try.func61, Try.ntmps61
  go_wp2_with fail
  refine (copyCheck_any g p v _ hbk hp).mono ?_
  rintro e w1 ⟨rfl, hb1, hst1⟩
  have hne1 := row_types hown hbk (by decide)
  have hown1 : w1.ownsRow 0 5 1 v bs.length (Lib.byteCells bs) := row_keep hown (fun k hk => hst1.block k (hown.lt k hk).2 (fun e => hne1 (e ▸ hk)))
  clear hown hbk
  have HST1 := Lib.hid hst1
  clear hst1
  have c0 : w1.cell? ⟨g, 0, none⟩ = some (.pointer (some ⟨g, 0, none⟩)) := by rw [Lib.cell_of_heap hb1]; rfl
  have c1 : w1.cell? ⟨g, 1, none⟩ = some v := by rw [Lib.cell_of_heap hb1]; rfl
  go_wp2_with (at_builtin; refine wpList_append_own_at _ rfl _ _ 37 rfl 0 5 i0 (.int .u8 0) 1 1 Try.underlying37 hi hz0 hz1 hz2 rfl (by decide) _ _ _ rfl (hown1.alloc _) ⟨w1.heap.size, 0, none⟩ 1 1 [.int .u8 c.toNat] rfl rfl ?c1 ?c2 ?c3 ?c4 ?c5 ?_)
  case c1 =>
    intro j u hj
    match j, hj with
    | 0, hj => simp at hj; subst hj; simp [Addr.add]
  case c2 => intro u hu; simp at hu; subst hu; rfl
  case c3 => unfold maxLen; omega
  case c4 => omega
  case c5 => omega
  intro v' w2 hown' hgrow _ hat
  have hlt := blk_lt hb1
  have hne := row_types hown1 hb1 (by decide)
  have hb2 : w2.heap[g]? = some (.cells #[.pointer (some ⟨g, 0, none⟩), v] 41 (0, 0)) := by
    rw [hgrow.block g (by simp; omega) (fun e => hne e.symm), Lib.alloc_old w1 _ g hlt]
    exact hb1
  have d0 : w2.cell? ⟨g, 0, none⟩ = some (.pointer (some ⟨g, 0, none⟩)) := by rw [Lib.cell_of_heap hb2]; rfl
  have d1 : w2.cell? ⟨g, 1, none⟩ = some v := by rw [Lib.cell_of_heap hb2]; rfl
  have f1 : w2.frozen? ⟨g, 1, none⟩ = false := Lib.frozen_of_heap hb2 1
  obtain ⟨q, cap, rfl⟩ : ∃ q cap, v' = .slice (some ⟨q, 0, none⟩) (bs.length + 1) cap := by
    rcases hown'.2 with ⟨_, h0⟩ | ⟨q, cap, cur, hv, _⟩
    · omega
    · exact ⟨q, cap, hv⟩
  go_wp2
  go_ret
  refine ⟨rfl, ?_⟩
  have hne2 := row_types hown' hb2 (by decide)
  refine ⟨_, ⟨_, _, heap_set2 hb2, .inr rfl, row_keep (w := w2) (by simpa [Lib.byteCells] using hown') (fun k hk => Below.heap_setCell _ _ _ _ (fun e => hne2 (hk.trans (congrArg some e)))), fun k => Iff.rfl⟩, ?_, ?_⟩
  · have s1 : Step S w w1 := HST1.out.mono (fun k hk => (hHS.out k).2 (.inl hk))
    have s2 : Step S w w2 := (s1.alloc _).trans (Step.of_grown hgrow) (fun i hi => .inl ((hHS.out i).2 (.inr hi)))
    exact s2.setCell ((hHS.out g).2 (.inl rfl)) _
  · rintro k (rfl | hk)
    · exact .inl ((hHS.out _).2 (.inl rfl))
    · rcases hat with h | h
      · exact .inl ((hHS.out k).2 (.inr (hk.trans h)))
      · rw [h] at hk
        injection hk with hk
        have := HST1.out.size
        exact .inr (by first | omega | (simp at hk; omega))

set_option maxHeartbeats 2000000 in
theorem writeString (g : Nat) (bs : List UInt8) (s : ByteArray) (S : Nat → Prop) (w : World) (h : IsW g bs S w) (hlen : bs.length + s.size ≤ 140737488355328) :
    Calls Try.prog 62 #[.pointer (some ⟨g, 0, none⟩), .string s] w fun e w' => e = .returned (.tuple #[.int .i64 s.size, .nilIface]) ∧ Upd S (IsW g (bs ++ s.data.toList)) w w' := by
  obtain ⟨i0, hi, hz0, hz1, hz2⟩ := info_parts infoByte
  obtain ⟨p, v, hbk, hp, hown, hS⟩ := h
  have hHS := Lib.hid hS
  clear hS
  go_enter Try.func62, Try.ntmps62
  go_wp2_with fail
  refine (copyCheck_any g p v _ hbk hp).mono ?_
  rintro e w1 ⟨rfl, hb1, hst1⟩
  have hne1 := row_types hown hbk (by decide)
  have hown1 : w1.ownsRow 0 5 1 v bs.length (Lib.byteCells bs) := row_keep hown (fun k hk => hst1.block k (hown.lt k hk).2 (fun e => hne1 (e ▸ hk)))
  clear hown hbk
  have HST1 := Lib.hid hst1
  clear hst1
  have c0 : w1.cell? ⟨g, 0, none⟩ = some (.pointer (some ⟨g, 0, none⟩)) := by rw [Lib.cell_of_heap hb1]; rfl
  have c1 : w1.cell? ⟨g, 1, none⟩ = some v := by rw [Lib.cell_of_heap hb1]; rfl
  go_wp2_with (at_builtin; refine wpList_append_string_at rfl _ _ 37 9 rfl 0 5 i0 Try.underlying37 Try.underlying9 hi hz0 hz1 hz2 _ _ _ rfl hown1 s rfl ?c3 ?c4 ?c5 ?_)
  case c3 => unfold maxLen; omega
  case c4 => omega
  case c5 => omega
  intro v' w2 hown' hgrow hat
  have hlt := blk_lt hb1
  have hne := row_types hown1 hb1 (by decide)
  have hb2 : w2.heap[g]? = some (.cells #[.pointer (some ⟨g, 0, none⟩), v] 41 (0, 0)) := by
    rw [hgrow.block g hlt (fun e => hne e.symm)]
    exact hb1
  have d0 : w2.cell? ⟨g, 0, none⟩ = some (.pointer (some ⟨g, 0, none⟩)) := by rw [Lib.cell_of_heap hb2]; rfl
  have d1 : w2.cell? ⟨g, 1, none⟩ = some v := by rw [Lib.cell_of_heap hb2]; rfl
  have f1 : w2.frozen? ⟨g, 1, none⟩ = false := Lib.frozen_of_heap hb2 1
  obtain ⟨ao, n', cap, rfl⟩ : ∃ ao n' cap, v' = .slice ao n' cap := by
    rcases hown'.2 with ⟨hv, _⟩ | ⟨q, cap, cur, hv, _⟩
    · exact ⟨_, _, _, hv⟩
    · exact ⟨_, _, _, hv⟩
  go_wp2
  go_ret2
  refine ⟨rfl, ?_⟩
  have hne2 := row_types hown' hb2 (by decide)
  refine ⟨_, ⟨_, _, heap_set2 hb2, .inr rfl, row_keep (w := w2) (by simpa [Lib.byteCells, Lib.strCells] using hown') (fun k hk => Below.heap_setCell _ _ _ _ (fun e => hne2 (hk.trans (congrArg some e)))), fun k => Iff.rfl⟩, ?_, ?_⟩
  · have s1 : Step S w w1 := HST1.out.mono (fun k hk => (hHS.out k).2 (.inl hk))
    have s2 : Step S w w2 := s1.trans (Step.of_grown hgrow) (fun i hi => .inl ((hHS.out i).2 (.inr hi)))
    exact s2.setCell ((hHS.out g).2 (.inl rfl)) _
  · rintro k (rfl | hk)
    · exact .inl ((hHS.out _).2 (.inl rfl))
    · rcases hat with h | h
      · exact .inl ((hHS.out k).2 (.inr (hk.trans h)))
      · rw [h] at hk
        injection hk with hk
        have := HST1.out.size
        exact .inr (by omega)

/-! ### String -/
theorem froze_row {w : World} {e : TypeId} {n cap g : Nat} {xs : List Value} (h : w.ownsRowF 0 e 1 (.slice (some ⟨g, 0, none⟩) n cap) n xs) : (w.freeze ⟨g, 0, none⟩ n).ownsRowF 0 e 1 (.slice (some ⟨g, 0, none⟩) n cap) n xs := by
  refine ⟨h.1, ?_⟩
  rcases h.2 with ⟨h0, _⟩ | ⟨b, c2, cur, fz, hv, hb, hg, hfz, hnc, hcm, hcs, htake⟩
  · cases h0
  · injection hv with h1 h2 h3
    injection h1 with h1
    injection h1 with h1
    subst h1
    subst h3
    by_cases hn : n = 0
    · refine .inr ⟨g, cap, cur, fz, rfl, hb, ?_, hfz, hnc, hcm, hcs, htake⟩
      simp only [World.freeze, hn, if_true]
      exact hg
    · refine .inr ⟨g, cap, cur, (if fz.1 == fz.2 then (0, 0 + n) else (min fz.1 0, max fz.2 (0 + n))), rfl, hb, ?_, ?_, hnc, hcm, hcs, htake⟩
      · obtain ⟨lo, hi⟩ := fz
        simp only [World.freeze, if_neg hn, Array.getElem?_modify, hg]
        simp
      · split
        · simp
        · simp only [Nat.mul_one] at hfz ⊢; omega
theorem heap_freeze {w : World} {a : Addr} {n k : Nat} (h : k ≠ a.block) : (w.freeze a n).heap[k]? = w.heap[k]? := by
  unfold World.freeze
  split
  · rfl
  · simp only [Array.getElem?_modify]
    rw [if_neg (fun e => h e.symm)]
theorem size_freeze {w : World} {a : Addr} {n : Nat} : (w.freeze a n).heap.size = w.heap.size := by
  unfold World.freeze
  split <;> simp
theorem step_freeze {S : Nat → Prop} {a w : World} (h : Step S a w) {p : Addr} (hp : S p.block) (n : Nat) : Step S a (w.freeze p n) :=
  h.trans (S' := fun k => k = p.block) ⟨by unfold World.freeze; split <;> rfl, by unfold World.freeze; split <;> rfl, by unfold World.freeze; split <;> rfl, Nat.le_of_eq size_freeze.symm, fun k hk hn => heap_freeze hn⟩ (fun i hi => .inl (hi ▸ hp))

set_option maxHeartbeats 2000000 in
theorem builder_string (g : Nat) (l : List UInt8) (S : Nat → Prop) (w : World) (h : IsWF g l S w) (h0 : l ≠ []) :
    Calls Try.prog 39 #[.pointer (some ⟨g, 0, none⟩)] w fun e w' => e = .returned (.string ⟨l.toArray⟩) ∧ Upd S (IsWF g l) w w' := by
  obtain ⟨p, v, hbk, hp, hown, hS⟩ := h
  have hl0 : l.length ≠ 0 := by simpa using h0
  obtain ⟨b, cap, cur, fz, rfl, _, hg, hfz, hnc, hcm, hcs, htake⟩ : ∃ b cap cur fz, v = .slice (some ⟨b, 0, none⟩) l.length cap ∧ 0 ≤ b ∧ w.heap[b]? = some (.cells cur 5 fz) ∧ fz.2 ≤ l.length * 1 ∧ l.length ≤ cap ∧ cap ≤ maxLen ∧ cur.size = cap * 1 ∧ cur.toList.take (l.length * 1) = Lib.byteCells l := by
    rcases hown.2 with ⟨_, hz⟩ | ⟨b, cap, cur, fz, hv, r⟩
    · exact absurd hz hl0
    · exact ⟨b, cap, cur, fz, hv, r⟩
  have c1 : w.cell? ⟨g, 1, none⟩ = some (.slice (some ⟨b, 0, none⟩) l.length cap) := by rw [Lib.cell_of_heap hbk]; rfl
  have hSD : (Builtin.unsafeSliceData_ #[37] 113 #[.slice (some ⟨b, 0, none⟩) l.length cap]).run Try.prog w.drew = .ok (.pointer (some ⟨b, 0, none⟩)) w.drew :=
    Lib.run_unsafeSliceData_row _ _ _ _ _ _ (by omega)
  have hUS : (Builtin.unsafeString_ #[113, 3] 9 #[.pointer (some ⟨b, 0, none⟩), .int .i64 l.length]).run Try.prog w.drew = .ok (.string ⟨l.toArray⟩) (w.drew.freeze ⟨b, 0, none⟩ l.length) := by
    refine Lib.run_unsafeString_row w.drew 113 3 9 5 Try.underlying113 cellsByte b cur.size (by have hg' : w.drew.heap[b]? = some (.cells cur 5 fz) := hg; simp [World.shape?, hg']) l h0 (by omega) (by unfold maxLen at hcm; omega) ?_
    intro j x hx
    have := hown.cells (g := b) rfl j (.int .u8 x.toNat) (by simp [Lib.byteCells, hx])
    exact this
  have hkeep : Upd S (IsWF g l) w (w.drew.freeze ⟨b, 0, none⟩ l.length) := by
    have hgb : g ≠ b := by
      rintro rfl
      rw [hbk] at hg
      injection hg with hg
      injection hg with _ ht
      exact absurd ht (by decide)
    refine ⟨S, ⟨p, _, ?_, hp, froze_row (w := w.drew) hown, hS⟩, step_freeze (Step.refl S w).drew ((hS b).2 (.inr rfl)) _, fun k hk => .inl hk⟩
    rw [heap_freeze hgb]
    exact hbk
  have HK := Lib.hid hkeep
  clear hkeep hown hg hbk hS htake hcs hfz
  go_enter Try.func39, Try.ntmps39
  go_wp2
  go_region
  all_goals
    go_wp2
    go_ret
    exact ⟨rfl, HK.out⟩

set_option maxHeartbeats 2000000 in
theorem builder_string_nil (g : Nat) (p : Value) (w : World) (hbk : w.heap[g]? = some (.cells #[p, .slice none 0 0] 41 (0, 0))) :
    Calls Try.prog 39 #[.pointer (some ⟨g, 0, none⟩)] w fun e w' => e = .returned (.string ⟨#[]⟩) ∧ Fr w w' := by
  have hUS : (Builtin.unsafeString_ #[113, 3] 9 #[.pointer none, .int .i64 0]).run Try.prog w.drew = .ok (.string .empty) w.drew := Lib.run_unsafeString_none w.drew _ _ _ none
  have c1 : w.cell? ⟨g, 1, none⟩ = some (.slice none 0 0) := by rw [Lib.cell_of_heap hbk]; rfl
  have hSD : (Builtin.unsafeSliceData_ #[37] 113 #[.slice none 0 0]).run Try.prog w.drew = .ok (.pointer none) w.drew := rfl
  clear hbk
  go_enter Try.func39, Try.ntmps39
  go_wp2
  go_region
  all_goals
    go_wp2
    go_ret
    exact ⟨rfl, (Fr.refl w).drew⟩

set_option maxHeartbeats 2000000 in
theorem builder_string_noroom (g b : Nat) (p : Value) (cur : Array Value) (fz : Nat × Nat) (w : World) (hbk : w.heap[g]? = some (.cells #[p, .slice (some ⟨b, 0, none⟩) 0 0] 41 (0, 0))) (hg : w.heap[b]? = some (.cells cur 5 fz)) :
    Calls Try.prog 39 #[.pointer (some ⟨g, 0, none⟩)] w fun e w' => e = .returned (.string ⟨#[]⟩) ∧ Fr w w' := by
  have hUS : ∀ W q, (Builtin.unsafeString_ #[113, 3] 9 #[.pointer q, .int .i64 0]).run Try.prog W = .ok (.string .empty) W := fun W q => Lib.run_unsafeString_none W _ _ _ q
  have hlt := blk_lt hbk
  have c0 : w.cell? ⟨g, 1, none⟩ = some (.slice (some ⟨b, 0, none⟩) 0 0) := by rw [Lib.cell_of_heap hbk]; rfl
  have hSD : (Builtin.unsafeSliceData_ #[37] 113 #[.slice (some ⟨b, 0, none⟩) 0 0]).run Try.prog w.drew = .ok (.pointer (some ⟨w.drew.heap.size, 0, none⟩)) (w.drew.alloc (.view ⟨b, 0, none⟩ 5)) :=
    Lib.run_unsafeSliceData_zero w.drew _ _ 5 Try.underlying113 ⟨b, 0, none⟩ 0 (5, cur.size) (by have hg' : w.drew.heap[b]? = some (.cells cur 5 fz) := hg; simp [World.shape?, hg'])
  have c3 : (w.alloc (.view ⟨b, 0, none⟩ 5)).drew.cell? ⟨g, 1, none⟩ = some (.slice (some ⟨b, 0, none⟩) 0 0) := by
    have : (w.alloc (.view ⟨b, 0, none⟩ 5)).drew.heap[g]? = _ := (Lib.alloc_old w _ g hlt).trans hbk
    rw [Lib.cell_of_heap this]; rfl
  clear hbk hg
  go_enter Try.func39, Try.ntmps39
  go_wp2
  go_region
  all_goals
    go_wp2
    go_ret
    exact ⟨rfl, by repeat (first | exact Fr.refl _ | apply Fr.drew | apply Fr.alloc)⟩

set_option maxHeartbeats 2000000 in
theorem builder_string_room (g b cap : Nat) (p : Value) (w : World) (hc0 : cap ≠ 0) (hbk : w.heap[g]? = some (.cells #[p, .slice (some ⟨b, 0, none⟩) 0 cap] 41 (0, 0))) :
    Calls Try.prog 39 #[.pointer (some ⟨g, 0, none⟩)] w fun e w' => e = .returned (.string ⟨#[]⟩) ∧ Fr w w' := by
  have hUS : ∀ W q, (Builtin.unsafeString_ #[113, 3] 9 #[.pointer q, .int .i64 0]).run Try.prog W = .ok (.string .empty) W := fun W q => Lib.run_unsafeString_none W _ _ _ q
  have c0 : w.cell? ⟨g, 1, none⟩ = some (.slice (some ⟨b, 0, none⟩) 0 cap) := by rw [Lib.cell_of_heap hbk]; rfl
  have hSD : (Builtin.unsafeSliceData_ #[37] 113 #[.slice (some ⟨b, 0, none⟩) 0 cap]).run Try.prog w.drew = .ok (.pointer (some ⟨b, 0, none⟩)) w.drew :=
    Lib.run_unsafeSliceData_row _ _ _ _ _ _ hc0
  clear hbk hc0
  go_enter Try.func39, Try.ntmps39
  go_wp2
  go_region
  all_goals
    go_wp2
    go_ret
    exact ⟨rfl, by repeat (first | exact Fr.refl _ | apply Fr.drew | apply Fr.alloc)⟩

theorem upd_fr {S : Nat → Prop} {A : Asr} (hA : LocalA A) {w w' : World} (h : A S w) (hf : Fr w w') : Upd S A w w' :=
  ⟨S, hA.keep _ _ _ h (fun k hk => hf.block k (hA.lt _ _ _ h hk)), Step.of_fr hf, fun _ h => .inl h⟩

theorem string_any (g : Nat) (l : List UInt8) (S : Nat → Prop) (w : World) (h : IsWF g l S w) :
    Calls Try.prog 39 #[.pointer (some ⟨g, 0, none⟩)] w fun e w' => e = .returned (.string ⟨l.toArray⟩) ∧ Upd S (IsWF g l) w w' := by
  by_cases h0 : l = []
  · subst h0
    have h' := h
    obtain ⟨p, v, hbk, hp, hown, hS⟩ := h
    have key : Calls Try.prog 39 #[.pointer (some ⟨g, 0, none⟩)] w fun e w' => e = .returned (.string ⟨#[]⟩) ∧ Fr w w' := by
      rcases hown.2 with ⟨rfl, _⟩ | ⟨b, cap, cur, fz, rfl, hb, hg, rest⟩
      · exact builder_string_nil g _ w hbk
      · by_cases hc0 : cap = 0
        · subst hc0
          exact builder_string_noroom g b _ cur fz w hbk hg
        · exact builder_string_room g b cap _ w hc0 hbk
    refine key.mono ?_
    rintro e w' ⟨rfl, hf⟩
    exact ⟨rfl, upd_fr (IsWF.local g []) h' hf⟩
  · exact builder_string g l S w h h0

set_option maxHeartbeats 1000000 in
/-- (*Writer).Bytes. -/
theorem writer_bytes (g : Nat) (l : List UInt8) (S : Nat → Prop) (w : World) (h : IsWF g l S w) :
    Calls Try.prog 18 #[.pointer (some ⟨g, 0, none⟩)] w fun e w' => e = .returned (.string ⟨l.toArray⟩) ∧ Upd S (IsWF g l) w w' := by
  go_enter Try.func18, Try.ntmps18
  go_wp2_with fail
  refine (string_any g l S _ h).mono ?_
  rintro e w' ⟨rfl, hu⟩
  go_wp2
  go_ret
  exact ⟨rfl, hu⟩

end Go.Proofs.Ytoanelahjgaojaa
