/- What the reader answers at the head of an encoding. -/
import Derived.Test.YtkifcmlehiidiaaPackAlive
namespace Go.Proofs.Ytkifcmlehiidiaa
open Go.RowKit
set_option linter.unusedVariables false

theorem drop_next {l x R : List UInt8} {p : Nat} (h : l.drop p = x ++ R) : l.drop (p + x.length) = R := by
  rw [← List.drop_drop, h, List.drop_left]
theorem drop_len {l x R : List UInt8} {p : Nat} (h : l.drop p = x ++ R) (hp : p ≤ l.length) : p + x.length + R.length = l.length := by
  have := congrArg List.length h
  simp at this
  omega
theorem rI_at {l R : List UInt8} {p : Nat} {n : Int} (h1 : -9223372036854775808 ≤ n) (h2 : n ≤ 9223372036854775807) (h : l.drop p = encI n ++ R) : rI l (some p) = (n, some (p + (encI n).length)) := by
  unfold rI
  simp only [h, decI_enc h1 h2]
theorem rS_at {l R s : List UInt8} {p : Nat} (hs : s.length ≤ 9223372036854775807) (h : l.drop p = encS s ++ R) (hp : p ≤ l.length) : rS l (some p) = (s, some (p + (encS s).length)) := by
  have h' : l.drop p = encI s.length ++ (s ++ R) := by rw [h]; simp [encS]
  have h1 := rI_at (by omega) (by omega) h'
  have h2 := drop_next h'
  have h3 := drop_len h' hp
  unfold rS
  rw [h1]
  simp only [List.length_append] at h3
  dsimp only
  rw [if_neg (by omega)]
  simp only [Int.toNat_natCast, h2, List.take_left, encS, List.length_append, Nat.add_assoc]
theorem rB_at {l R : List UInt8} {b : Bool} {p : Nat} (h : l.drop p = encB b ++ R) : rB l (some p) = (b, some (p + (encB b).length)) := by
  have h1 := rI_at (n := if b then 1 else 0) (by cases b <;> decide) (by cases b <;> decide) h
  unfold rB
  rw [h1]
  cases b <;> rfl

theorem reader_int_at (g : Nat) (x : ByteArray) (p : Nat) (n : Int) (R : List UInt8) (S : Nat → Prop) (w : World) (h : IsR g x (some p) S w) (hs : x.size ≤ 9223372036854775000)
    (hd : x.data.toList.drop p = encI n ++ R) (h1 : -9223372036854775808 ≤ n ∧ n ≤ 9223372036854775807) :
    Calls Try.prog 26 #[.pointer (some ⟨g, 0, none⟩)] w fun e w' => e = .returned (.int .i64 n) ∧ Upd S (IsR g x (some (p + (encI n).length))) w w' := by
  have := reader_int g x (some p) S w h hs
  rwa [rI_at h1.1 h1.2 hd] at this
theorem IsR.le {g : Nat} {x : ByteArray} {p : Nat} {S : Nat → Prop} {w : World} (h : IsR g x (some p) S w) : p ≤ x.data.toList.length := by
  obtain ⟨a, _, h2, _⟩ := h
  have := (h2 p rfl).2
  simpa using this
theorem reader_str_at (g : Nat) (x : ByteArray) (p : Nat) (s : ByteArray) (R : List UInt8) (S : Nat → Prop) (w : World) (h : IsR g x (some p) S w) (hs : x.size ≤ 9223372036854775000)
    (hd : x.data.toList.drop p = encS s.data.toList ++ R) (h1 : s.size ≤ 9223372036854775807) :
    Calls Try.prog 29 #[.pointer (some ⟨g, 0, none⟩)] w fun e w' => e = .returned (.string s) ∧ Upd S (IsR g x (some (p + (encS s.data.toList).length))) w w' := by
  have := reader_str g x (some p) S w h hs
  rwa [rS_at (by simpa using h1) hd h.le] at this
theorem reader_bool_at (g : Nat) (x : ByteArray) (p : Nat) (b : Bool) (R : List UInt8) (S : Nat → Prop) (w : World) (h : IsR g x (some p) S w) (hs : x.size ≤ 9223372036854775000)
    (hd : x.data.toList.drop p = encB b ++ R) :
    Calls Try.prog 31 #[.pointer (some ⟨g, 0, none⟩)] w fun e w' => e = .returned (.bool b) ∧ Upd S (IsR g x (some (p + (encB b).length))) w w' := by
  have := reader_bool g x (some p) S w h hs
  rwa [rB_at hd] at this
theorem reader_end_at (g : Nat) (x : ByteArray) (p : Nat) (S : Nat → Prop) (w : World) (h : IsR g x (some p) S w) (hs : x.size ≤ 9223372036854775000)
    (hd : x.data.toList.drop p = []) :
    Calls Try.prog 27 #[.pointer (some ⟨g, 0, none⟩)] w fun e w' => e = .returned (.int .i64 0) ∧ Fr w w' := by
  have := reader_end g x (some p) S w h hs
  have hl := h.le
  have h2 := List.drop_eq_nil_iff.mp hd
  have e : p = x.data.toList.length := by omega
  rwa [rEnd, if_pos (by rw [e])] at this

end Go.Proofs.Ytkifcmlehiidiaa
