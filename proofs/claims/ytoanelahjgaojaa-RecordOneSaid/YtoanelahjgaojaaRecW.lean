/- A writer handed on from call to call; the walk of record.Put. -/
import Derived.Test.YtoanelahjgaojaaPackW
import Derived.Test.YtoanelahjgaojaaRecGood
namespace Go.Proofs.Ytoanelahjgaojaa
open Go.RowKit
set_option linter.unusedVariables false
set_option maxRecDepth 100000

theorem isW_new (w : World) : IsW w.heap.size [] (fun k => k = w.heap.size) (w.alloc (.cells #[.pointer none, .slice none 0 0] 41)) := by
  refine ⟨none, _, by simpa using heap_alloc_new w _, .inl rfl, World.ownsRow_nil _ _ _ _, fun k => by simp [Value.ownBlock]⟩

/-- A writer handed on beside what else there is. -/
abbrev NoS : Nat → Prop := fun _ => False
theorem upd_call {S : Nat → Prop} {A : Asr} {w wc : World} (h : Upd S A w wc) : ∃ S1, A S1 wc ∧ (∀ k, S1 k → S k ∨ w.heap.size ≤ k) ∧ ∀ A' w', Upd S1 A' wc w' → Upd S A' w w' := by
  obtain ⟨S1, h1, h2, h3⟩ := h
  exact ⟨S1, h1, h3, fun A' w' k => Upd.trans' (A := A) ⟨S1, h1, h2, h3⟩ h1 h2 h3 k⟩
theorem upd_keep {A : Asr} (hA : LocalA A) {S : Nat → Prop} {w wc w' : World} (h : Upd S A w wc) (hf : Fr wc w') : Upd S A w w' := h.trans fun S1 h1 => upd_fr hA h1 hf
theorem new_upd {S1 : Nat → Prop} {A A' : Asr} {S : Nat → Prop} {w wc w' : World} {o : Obj} (h : Upd S A w wc) (h1 : A S1 wc) (k : ∀ A' w', Upd S1 A' wc w' → Upd S A' w w') (hu : Upd S1 A' (wc.alloc o) w') : Upd S A' w w' := by
  obtain ⟨S', k1, k2, k3⟩ := hu
  exact k _ _ ⟨S', k1, (Step.of_fr ((Fr.refl wc).alloc _)).trans k2 (fun i hi => .inl hi), fun k hk => (k3 k hk).imp id (fun h => by simp at h; omega)⟩
theorem Blk.upd {w w' : World} {g : Nat} {t : TypeId} {cs : Array Value} {S : Nat → Prop} {A : Asr} (h : Blk w g t cs) (hu : Upd S A w w') (hg : ¬ S g) : Blk w' g t cs := h.keep (hu.step.block g h.lt hg)
section
variable {g : Nat} {bs : List UInt8} {w wc : World} {S : Nat → Prop}
theorem w_int1 (n : Int) (h : Upd S (IsW g bs) w wc) (hn : in64 n) (hlen : bs.length + 10 ≤ 140737488355328) :
    Calls Try.prog 36 #[.pointer (some ⟨g, 0, none⟩), .slice (some ⟨wc.heap.size, 0, none⟩) 1 1] (wc.alloc (.cells #[.int .i64 n] 3)) fun e w' => e = .returned (.tuple #[]) ∧ Upd S (IsW g (bs ++ encI n)) w w' := by
  obtain ⟨S1, h1, _, k1⟩ := upd_call h
  exact (writer_int1 g bs S1 n wc h1 hn hlen).mono fun e w' ⟨he, hu⟩ => ⟨he, k1 _ _ hu⟩
theorem row3n (w : World) (a b c : Int) : RdRow (w.alloc (.cells #[.int .i64 a, .int .i64 b, .int .i64 c] 3)) (some ⟨w.heap.size, 0, none⟩) (intRow [a, b, c]) := by
  refine .inr ⟨_, _, rfl, fun i v hv => ?_⟩
  match i, hv with
  | 0, hv => simp [intRow] at hv; subst hv; simp
  | 1, hv => simp [intRow] at hv; subst hv; simp
  | 2, hv => simp [intRow] at hv; subst hv; simp
theorem w_int3 (a b c : Int) (h : Upd S (IsW g bs) w wc) (ha : in64 a) (hb : in64 b) (hc : in64 c) (hlen : bs.length + 30 ≤ 140737488355328) :
    Calls Try.prog 36 #[.pointer (some ⟨g, 0, none⟩), .slice (some ⟨wc.heap.size, 0, none⟩) 3 3] (wc.alloc (.cells #[.int .i64 a, .int .i64 b, .int .i64 c] 3)) fun e w' => e = .returned (.tuple #[]) ∧ Upd S (IsW g (bs ++ encIs [a, b, c])) w w' := by
  obtain ⟨S1, h1, _, k1⟩ := upd_call h
  exact (writer_int g bs S1 (some ⟨wc.heap.size, 0, none⟩) 3 [a, b, c] _ (h1.alloc _) (row3n wc a b c) (fun b o e _ => by injection e with e; injection e with e; subst e; exact h1.notIn)
    (fun n hn => by simp at hn; rcases hn with rfl | rfl | rfl <;> assumption) (by simpa using hlen)).mono fun e w' ⟨he, hu⟩ => ⟨he, new_upd h h1 k1 hu⟩
theorem row1s (w : World) (a : ByteArray) : RdRow (w.alloc (.cells #[.string a] 9)) (some ⟨w.heap.size, 0, none⟩) (strRow [a]) := by
  refine .inr ⟨_, _, rfl, fun i v hv => ?_⟩
  match i, hv with
  | 0, hv => simp [strRow] at hv; subst hv; simp
theorem row2s (w : World) (a b : ByteArray) : RdRow (w.alloc (.cells #[.string a, .string b] 9)) (some ⟨w.heap.size, 0, none⟩) (strRow [a, b]) := by
  refine .inr ⟨_, _, rfl, fun i v hv => ?_⟩
  match i, hv with
  | 0, hv => simp [strRow] at hv; subst hv; simp
  | 1, hv => simp [strRow] at hv; subst hv; simp
theorem row1b (w : World) (a : Bool) : RdRow (w.alloc (.cells #[.bool a] 4)) (some ⟨w.heap.size, 0, none⟩) (boolRow [a]) := by
  refine .inr ⟨_, _, rfl, fun i v hv => ?_⟩
  match i, hv with
  | 0, hv => simp [boolRow] at hv; subst hv; simp
theorem w_str1 (a : ByteArray) (h : Upd S (IsW g bs) w wc) (hlen : bs.length + 10 + a.size ≤ 140737488355328) :
    Calls Try.prog 37 #[.pointer (some ⟨g, 0, none⟩), .slice (some ⟨wc.heap.size, 0, none⟩) 1 1] (wc.alloc (.cells #[.string a] 9)) fun e w' => e = .returned (.tuple #[]) ∧ Upd S (IsW g (bs ++ encS a.data.toList)) w w' := by
  obtain ⟨S1, h1, _, k1⟩ := upd_call h
  have H := writer_str g bs S1 (some ⟨wc.heap.size, 0, none⟩) 1 [a] _ (h1.alloc _) (row1s wc a) (fun b o e _ => by injection e with e; injection e with e; subst e; exact h1.notIn)
    (fun n hn => by simp at hn; subst hn; omega) (by simp [bytesIn]; omega)
  have e1 : encSs (lists [a]) = encS a.data.toList := by simp [encSs, lists]
  rw [e1] at H
  exact H.mono fun e w' ⟨he, hu⟩ => ⟨he, new_upd h h1 k1 hu⟩
theorem w_str2 (a b : ByteArray) (h : Upd S (IsW g bs) w wc) (hlen : bs.length + 20 + a.size + b.size ≤ 140737488355328) :
    Calls Try.prog 37 #[.pointer (some ⟨g, 0, none⟩), .slice (some ⟨wc.heap.size, 0, none⟩) 2 2] (wc.alloc (.cells #[.string a, .string b] 9)) fun e w' => e = .returned (.tuple #[]) ∧ Upd S (IsW g (bs ++ (encS a.data.toList ++ encS b.data.toList))) w w' := by
  obtain ⟨S1, h1, _, k1⟩ := upd_call h
  have H := writer_str g bs S1 (some ⟨wc.heap.size, 0, none⟩) 2 [a, b] _ (h1.alloc _) (row2s wc a b) (fun b o e _ => by injection e with e; injection e with e; subst e; exact h1.notIn)
    (fun n hn => by simp at hn; rcases hn with rfl | rfl <;> omega) (by simp [bytesIn]; omega)
  have e1 : encSs (lists [a, b]) = encS a.data.toList ++ encS b.data.toList := by simp [encSs, lists]
  rw [e1] at H
  exact H.mono fun e w' ⟨he, hu⟩ => ⟨he, new_upd h h1 k1 hu⟩
theorem w_bool1 (a : Bool) (h : Upd S (IsW g bs) w wc) (hlen : bs.length + 10 ≤ 140737488355328) :
    Calls Try.prog 38 #[.pointer (some ⟨g, 0, none⟩), .slice (some ⟨wc.heap.size, 0, none⟩) 1 1] (wc.alloc (.cells #[.bool a] 4)) fun e w' => e = .returned (.tuple #[]) ∧ Upd S (IsW g (bs ++ encB a)) w w' := by
  obtain ⟨S1, h1, _, k1⟩ := upd_call h
  have H := writer_bool g bs S1 (some ⟨wc.heap.size, 0, none⟩) 1 [a] _ (h1.alloc _) (row1b wc a) (fun b o e _ => by injection e with e; injection e with e; subst e; exact h1.notIn) (by simpa using hlen)
  have e1 : encBs [a] = encB a := by simp [encBs]
  rw [e1] at H
  exact H.mono fun e w' ⟨he, hu⟩ => ⟨he, new_upd h h1 k1 hu⟩
theorem w_ints (a : Option Addr) (cap : Nat) (ns : List Int) (h : Upd NoS (IsW g bs) w wc) (hr : RdRow w a (intRow ns)) (hn : ∀ n ∈ ns, in64 n) (hlen : bs.length + 10 * ns.length ≤ 140737488355328) :
    Calls Try.prog 36 #[.pointer (some ⟨g, 0, none⟩), .slice a ns.length cap] wc fun e w' => e = .returned (.tuple #[]) ∧ Upd NoS (IsW g (bs ++ encIs ns)) w w' := by
  obtain ⟨S1, h1, hs, k1⟩ := upd_call h
  refine (writer_int g bs S1 a cap ns wc h1 (hr.fr h.fr) (fun b o e hne hb => ?_) hn hlen).mono fun e w' ⟨he, hu⟩ => ⟨he, k1 _ _ hu⟩
  rcases hr with h0 | ⟨b', o', ha, hc⟩
  · apply hne
    simpa [intRow] using h0
  · rw [ha] at e
    injection e with e
    injection e with e1 e2
    subst e1
    have hlt : b' < w.heap.size := by
      cases ns with
      | nil => exact absurd rfl hne
      | cons n ns => exact World.block_lt_of_cell? w _ (hc 0 (.int .i64 n) rfl)
    rcases hs _ hb with h | h
    · exact h
    · omega
end
set_option maxHeartbeats 1000000 in
theorem w_put (g : Nat) (bs : List UInt8) (a b c : Int) (w wc : World) (h : Upd NoS (IsW g bs) w wc) (ha : in64 a) (hb : in64 b) (hc : in64 c) (hlen : bs.length + 30 ≤ 140737488355328) :
    Calls Try.prog 16 #[.pointer (some ⟨g, 0, none⟩), .agg #[.int .i64 a, .int .i64 b, .int .i64 c]] wc fun e w' => e = .returned (.tuple #[]) ∧ Upd NoS (IsW g (bs ++ encIs [a, b, c])) w w' := by
  have h2 := upd_keep (IsW.local g bs) h ((Fr.refl wc).alloc (.cells #[.int .i64 a, .int .i64 b, .int .i64 c] 23))
  have h3 := w_int3 a b c h2 ha hb hc hlen
  have e1 : (wc.alloc (.cells #[.int .i64 a, .int .i64 b, .int .i64 c] 23)).heap.size = wc.heap.size + 1 := by simp
  rw [e1] at h3
  have H := Lib.hid h3
  clear h h2 h3 hlen e1
  go_enter Try.func16, Try.ntmps16
  go_wp2_with fail
  refine H.out.mono ?_
  rintro e w' ⟨rfl, hu⟩
  go_wp2
  go_end0
  exact ⟨rfl, hu⟩

end Go.Proofs.Ytoanelahjgaojaa
