/- The walk of alive of layer 1. -/
import Derived.Test.YtkifcmlehiidiaaPackW
import Derived.Test.YtkifcmlehiidiaaPackR2
namespace Go.Proofs.Ytkifcmlehiidiaa
open Go.RowKit
set_option linter.unusedVariables false

theorem IsW.new (w : World) : IsW w.heap.size [] (fun k => k = w.heap.size) (w.alloc (.cells #[.pointer none, .slice none 0 0] 42)) := by
  refine ⟨none, _, by simpa using heap_alloc_new w _, .inl rfl, World.ownsRow_nil _ _ _ _, fun k => by simp [Value.ownBlock]⟩

/-- A writer handed on beside what else there is. -/
theorem encIs_alive : encIs [0, -1, 64] = [0, 1, 128, 1] := by
  simp [encIs, encI, zig, varint_small, varint_big]
theorem rEnd_empty : rEnd [] (some 0) = 0 := rfl
theorem row3 (w : World) (a b c : Int) : RdRow (w.alloc (.cells #[.int .i64 a, .int .i64 b, .int .i64 c] 3)) (some ⟨w.heap.size, 0, none⟩) (intRow [a, b, c]) := by
  refine .inr ⟨_, _, rfl, fun i v hv => ?_⟩
  match i, hv with
  | 0, hv => simp [intRow] at hv; subst hv; simp
  | 1, hv => simp [intRow] at hv; subst hv; simp
  | 2, hv => simp [intRow] at hv; subst hv; simp
theorem fr_new {w w' : World} {S : Nat → Prop} {A : Asr} {o : Obj} (h : Upd S A (w.alloc o) w') (hS : ∀ k, S k → w.heap.size ≤ k) : Fr w w' := by
  obtain ⟨S1, h1, h2, h3⟩ := h
  exact Step.fr (((Step.refl (fun _ => False) w).alloc o).trans h2 (fun i hi => .inr (hS i hi)))

set_option maxHeartbeats 1000000 in
theorem pack_alive (w : World) : Calls Try.prog 17 #[] w fun e w' => e = .returned (.bool true) ∧ Fr w w' := by
  go_enter Try.func17, Try.ntmps17
  go_wp2_with fail
  have hW := (IsW.new w).alloc (.cells #[.int .i64 0, .int .i64 (-1), .int .i64 64] 3)
  refine (writer_int w.heap.size [] _ (some ⟨w.heap.size + 1, 0, none⟩) 3 [0, -1, 64] _ hW (by simpa using row3 (w.alloc (.cells #[.pointer none, .slice none 0 0] 42)) 0 (-1) 64) (fun b o e _ => by injection e with e; injection e with e; omega) (by simp) (by simp)).mono ?_
  rintro e w1 ⟨rfl, hu⟩
  rw [List.nil_append, encIs_alive] at hu
  have hfr : Fr w w1 := by
    obtain ⟨S1, h1, h2, h3⟩ := hu
    exact Step.fr ((((Step.refl (fun _ => False) w).alloc _).alloc _).trans h2 (fun i hi => .inr (by omega)))
  obtain ⟨S1, h1, h2, h3⟩ := hu
  clear hW
  have HW := Lib.hid h1
  have hS1 : ∀ k, S1 k → w.heap.size ≤ k := fun k hk => (h3 k hk).elim (fun h => by omega) (fun h => by simp at h; omega)
  have HS1 := Lib.hid hS1
  clear h1 h2 h3 hS1
  go_wp2_with fail
  refine (writer_bytes w.heap.size _ S1 _ (IsWF.of HW.out)).mono ?_
  rintro e w2 ⟨rfl, hu⟩
  have hfr2 : Fr w w2 := Step.fr ((Step.of_fr (S := fun _ => False) hfr).trans hu.step (fun i hi => .inr (HS1.out i hi)))
  clear hu hfr
  go_wp2_with fail
  refine (pack_open ⟨#[]⟩ _).mono ?_
  rintro e w3 ⟨rfl, hf3, hR⟩
  have HR := Lib.hid hR
  clear hR
  go_wp2_with fail
  refine (reader_end _ ⟨#[]⟩ (some 0) _ _ HR.out (by simp [ByteArray.size])).mono ?_
  rintro e w4 ⟨rfl, hf4⟩
  rw [rEnd_empty]
  go_wp2
  go_ret
  exact ⟨rfl, hfr2.trans (hf3.trans hf4)⟩

end Go.Proofs.Ytkifcmlehiidiaa
