/- Small laws on memory that the walks of this seat use: of no program. -/
import Derived.WalkKit
import Derived.KernelRfl
import Derived.Lib.Hide
import Derived.BigQuiet
import Derived.WideLaws
import Derived.WalkSpells
import Derived.WalkLawsBesides
import Derived.Laws.BitsAllLaws
import Derived.Laws.BytesArg
import Derived.Lib.ConvBytes
import Derived.Deep.QuietTactic
import Derived.Deep.RegionWith
import Derived.Deep.RegionHeld3
import Derived.Deep.DeepFit
import Derived.Deep.DeepCutAuto
import Derived.StillTailTactics
import Derived.Lib.Strings
namespace Go.Proofs.Ytoanelahjgaojaa
open Go.RowKit
set_option linter.unusedVariables false

section conv
variable {P : Program} {src dst e : TypeId}
theorem conv_new (hs : P.underlying src = some (.slice e)) (he : P.underlying e = some (.int .u8)) (hd : P.underlying dst = some .string)
    (w : World) (xs : List Int) (cap : Nat) (o : Obj) (ho : o = .cells (xs.map (Value.int .u8)).toArray e) :
    (convert src dst (.slice (some ⟨w.heap.size, 0, none⟩) xs.length cap)).run P (w.alloc o) = .ok (.string (strOfNums xs)) (w.alloc o) := by
  subst ho
  refine run_convert_bytes_arg _ src e hs he _ 0 xs.length cap xs rfl (fun i hi => ?_) dst hd
  rw [cell_of_row _ w.heap.size (0 + i) _ e (0, 0) (heap_alloc_new w _)]
  simp [List.getElem?_eq_getElem hi]
theorem conv_new1 (hs : P.underlying src = some (.slice e)) (he : P.underlying e = some (.int .u8)) (hd : P.underlying dst = some .string) (w : World) (a : Int) :
    (convert src dst (.slice (some ⟨w.heap.size, 0, none⟩) 1 1)).run P (w.alloc (.cells #[.int .u8 a] e)) = .ok (.string (strOfNums [a])) (w.alloc (.cells #[.int .u8 a] e)) :=
  conv_new hs he hd w [a] 1 _ rfl
theorem conv_new2 (hs : P.underlying src = some (.slice e)) (he : P.underlying e = some (.int .u8)) (hd : P.underlying dst = some .string) (w : World) (a b : Int) :
    (convert src dst (.slice (some ⟨w.heap.size, 0, none⟩) 2 2)).run P (w.alloc (.cells #[.int .u8 a, .int .u8 b] e)) = .ok (.string (strOfNums [a, b])) (w.alloc (.cells #[.int .u8 a, .int .u8 b] e)) :=
  conv_new hs he hd w [a, b] 2 _ rfl
theorem conv_new4 (hs : P.underlying src = some (.slice e)) (he : P.underlying e = some (.int .u8)) (hd : P.underlying dst = some .string) (w : World) (a b c d : Int) :
    (convert src dst (.slice (some ⟨w.heap.size, 0, none⟩) 4 4)).run P (w.alloc (.cells #[.int .u8 a, .int .u8 b, .int .u8 c, .int .u8 d] e)) = .ok (.string (strOfNums [a, b, c, d])) (w.alloc (.cells #[.int .u8 a, .int .u8 b, .int .u8 c, .int .u8 d] e)) :=
  conv_new hs he hd w [a, b, c, d] 4 _ rfl
end conv

/-- Of what was there nothing has turned. -/
abbrev Fr (w w' : World) : Prop := Below w.heap.size w w'
theorem Fr.refl (w : World) : Fr w w := Below.refl _ _
theorem Fr.trans {a b c : World} (h : Fr a b) (k : Fr b c) : Fr a c := Below.trans h (Below.mono k h.size)
theorem Fr.alloc {a w : World} (h : Fr a w) (o : Obj) : Fr a (w.alloc o) := Below.alloc h h.size o
theorem Fr.drew {a w : World} (h : Fr a w) : Fr a w.drew := Below.drew h
theorem Fr.drewN {a w : World} (h : Fr a w) (n : Nat) : Fr a (w.drewN n) := ⟨h.os, h.tape, h.output, h.size, h.block⟩
theorem ba_ext {a b : ByteArray} (h : a.data.toList = b.data.toList) : a = b := by
  apply ByteArray.ext
  exact Array.toList_inj.1 h
theorem ba_head (s : ByteArray) (n : Nat) : (s.extract 0 n).data.toList = s.data.toList.take n := by
  rw [Lib.extract_data]; simp
theorem ba_tail (s : ByteArray) (n : Nat) : (s.extract n s.size).data.toList = s.data.toList.drop n := by
  rw [Lib.extract_data, List.take_of_length_le]
  simp
theorem ba_len (s : ByteArray) : s.data.toList.length = s.size := by simp
theorem ba_append (a b : ByteArray) : (a ++ b).data.toList = a.data.toList ++ b.data.toList := by
  rw [ByteArray.data_append]; simp
theorem ret_str {a b : ByteArray} (h : a = b) : Ending.returned (.string a) = .returned (.string b) := by rw [h]
theorem ret_int {k : IntKind} {a b : Int} (h : a = b) : Ending.returned (.int k a) = .returned (.int k b) := by rw [h]
theorem ret_bool {a b : Bool} (h : a = b) : Ending.returned (.bool a) = .returned (.bool b) := by rw [h]
theorem val_str {a b : ByteArray} (h : a = b) : Value.string a = .string b := by rw [h]
theorem val_int {k : IntKind} {a b : Int} (h : a = b) : Value.int k a = .int k b := by rw [h]

theorem wf_u32 {c : Int} (h : (Lit.int .u32 c).wf = true) : 0 ≤ c ∧ c < 4294967296 := by
  simp [Lit.wf, IntKind.min, IntKind.max, IntKind.signed, IntKind.bits] at h; omega
theorem wf_u8 {c : Int} (h : (Lit.int .u8 c).wf = true) : 0 ≤ c ∧ c < 256 := by
  simp [Lit.wf, IntKind.min, IntKind.max, IntKind.signed, IntKind.bits] at h; omega
theorem wf_i64 {c : Int} (h : (Lit.int .i64 c).wf = true) : -9223372036854775808 ≤ c ∧ c ≤ 9223372036854775807 := by
  simp [Lit.wf, IntKind.min, IntKind.max, IntKind.signed, IntKind.bits] at h; omega

end Go.Proofs.Ytoanelahjgaojaa
