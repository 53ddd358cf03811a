/- What a slice argument is read as. Of no program. -/
import Derived.Test.YtoanelahjgaojaaKit
import Derived.Deep.Grids
import Derived.SliceStrings
import Derived.ChangeSlices
namespace Go.Proofs.Ytoanelahjgaojaa
open Go.RowKit Go.ChangeShapes Go.Deep
set_option linter.unusedVariables false

/-- A row of values that is only read. -/
def RdRow (w : World) (a : Option Addr) (vs : List Value) : Prop := vs = [] ∨ ∃ b o, a = some ⟨b, o, none⟩ ∧ ∀ i v, vs[i]? = some v → w.cell? ⟨b, o + i, none⟩ = some v
theorem RdRow.keep {w w' : World} {a : Option Addr} {vs : List Value} (h : RdRow w a vs) (hk : ∀ b o, a = some ⟨b, o, none⟩ → w'.heap[b]? = w.heap[b]?) : RdRow w' a vs := by
  rcases h with h | ⟨b, o, ha, hc⟩
  · exact .inl h
  · refine .inr ⟨b, o, ha, fun i v hv => ?_⟩
    rw [World.cell?_of_block (w := w) (hk b o ha)]
    exact hc i v hv
theorem RdRow.fr {w w' : World} {a : Option Addr} {vs : List Value} (h : RdRow w a vs) (hf : Fr w w') : RdRow w' a vs := by
  rcases h with h | ⟨b, o, ha, hc⟩
  · exact .inl h
  · refine .inr ⟨b, o, ha, fun i v hv => ?_⟩
    have h1 := hc i v hv
    rw [hf.cell (World.block_lt_of_cell? w _ h1)]
    exact h1
theorem RdRow.at {w : World} {a : Option Addr} {vs : List Value} (h : RdRow w a vs) {i : Nat} {v : Value} (hi : vs[i]? = some v) : ∃ b o, a = some ⟨b, o, none⟩ ∧ w.cell? ⟨b, o + i, none⟩ = some v := by
  rcases h with h | ⟨b, o, ha, hc⟩
  · subst h; simp at hi
  · exact ⟨b, o, ha, hc i v hi⟩
theorem RdRow.lt {w : World} {a : Option Addr} {vs : List Value} (h : RdRow w a vs) {b o : Nat} (ha : a = some ⟨b, o, none⟩) (hv : vs ≠ []) : b < w.heap.size := by
  rcases h with h | ⟨b', o', ha', hc⟩
  · exact absurd h hv
  · rw [ha] at ha'
    injection ha' with e
    injection e with e1 e2
    subst e1
    subst e2
    cases vs with
    | nil => exact absurd rfl hv
    | cons v vs => exact World.block_lt_of_cell? w _ (hc 0 v rfl)
theorem RdRow.of {w : World} {a : Addr} {vs : List Value} (h : ∀ i v, vs[i]? = some v → w.cell? (a.add i) = some v) : RdRow w (some a) vs := by
  cases vs with
  | nil => exact .inl rfl
  | cons v vs =>
    obtain ⟨b, o, spot⟩ := a
    have h0 := h 0 v rfl
    cases spot with
    | some x => simp [Addr.add, World.cell?] at h0; split at h0 <;> simp at h0
    | none =>
      refine .inr ⟨b, o, rfl, fun i u hu => ?_⟩
      have := h i u hu
      unfold Addr.add at this
      split at this
      · rename_i h1; subst h1; exact this
      · exact this
def intRow (ns : List Int) : List Value := ns.map (.int .i64)
def strRow (l : List ByteArray) : List Value := l.map .string
def boolRow (l : List Bool) : List Value := l.map .bool

section
variable {H : Type} {enc : TypeId × Value → H} {P : Program} {W : World} {base : Nat} {held : Bool}
theorem opened_ints {t e : TypeId} (ht : P.underlying t = some (.slice e)) (he : P.underlying e = some (.int .i64)) (hc : P.cellsOf e = 1) {a : Option Addr} {len cap : Nat} {x : DataW H × List MemPlace}
    (h : ∃ fuel, DataW.trod enc P W base (fun _ => true) held fuel t (Value.cells (.slice a len cap)).toList = some x) :
    ∃ ns : List Int, ns.length = len ∧ len ≤ maxLen ∧ RdRow W a (intRow ns) ∧ ∀ n ∈ ns, -9223372036854775808 ≤ n ∧ n ≤ 9223372036854775807 := by
  obtain ⟨fuel, hf⟩ := h
  rcases open_ints ht he hc hf with ⟨hcs, _⟩ | ⟨a', l, c, zs, hcs, _, hl, hm, hz, _, hcell, hwz⟩
  · simp [Value.cells] at hcs
    obtain ⟨rfl, rfl, rfl⟩ := hcs
    exact ⟨[], rfl, Nat.zero_le _, .inl rfl, by simp⟩
  · simp [Value.cells] at hcs
    obtain ⟨rfl, rfl, rfl⟩ := hcs
    simp only [if_true] at hz
    refine ⟨zs.take len, by rw [List.length_take]; omega, by omega, RdRow.of fun i v hv => ?_, fun n hn => wf_i64 (hwz n (List.mem_of_mem_take hn))⟩
    simp only [intRow, List.getElem?_map, Option.map_eq_some_iff] at hv
    obtain ⟨n, hn, rfl⟩ := hv
    have hi := (List.getElem?_eq_some_iff.1 hn).1
    rw [List.length_take] at hi
    rw [hcell i (by omega)]
    rw [List.getElem?_take_of_lt (by omega)] at hn
    simp [List.getD_eq_getElem?_getD, hn]
theorem opened_strs {t e : TypeId} (ht : P.underlying t = some (.slice e)) (he : P.underlying e = some .string) (hc : P.cellsOf e = 1) {a : Option Addr} {len cap : Nat} {x : DataW H × List MemPlace}
    (h : ∃ fuel, DataW.trod enc P W base (fun _ => true) held fuel t (Value.cells (.slice a len cap)).toList = some x) :
    ∃ ss : List ByteArray, ss.length = len ∧ len ≤ maxLen ∧ RdRow W a (strRow ss) ∧ ∀ s ∈ ss, s.size ≤ maxLen := by
  obtain ⟨fuel, hf⟩ := h
  rcases open_strings ht he hc hf with ⟨hcs, _⟩ | ⟨a', l, c, zs, hcs, _, hl, hm, hz, _, hcell, hwz⟩
  · simp [Value.cells] at hcs
    obtain ⟨rfl, rfl, rfl⟩ := hcs
    exact ⟨[], rfl, Nat.zero_le _, .inl rfl, by simp⟩
  · simp [Value.cells] at hcs
    obtain ⟨rfl, rfl, rfl⟩ := hcs
    simp only [if_true] at hz
    refine ⟨zs.take len, by rw [List.length_take]; omega, by omega, RdRow.of fun i v hv => ?_, fun n hn => hwz n (List.mem_of_mem_take hn)⟩
    simp only [strRow, List.getElem?_map, Option.map_eq_some_iff] at hv
    obtain ⟨n, hn, rfl⟩ := hv
    have hi := (List.getElem?_eq_some_iff.1 hn).1
    rw [List.length_take] at hi
    rw [hcell i (by omega)]
    rw [List.getElem?_take_of_lt (by omega)] at hn
    simp [List.getD_eq_getElem?_getD, hn]
theorem opened_bools {t e : TypeId} (ht : P.underlying t = some (.slice e)) (he : P.underlying e = some .bool) (hc : P.cellsOf e = 1) {a : Option Addr} {len cap : Nat} {x : DataW H × List MemPlace}
    (h : ∃ fuel, DataW.trod enc P W base (fun _ => true) held fuel t (Value.cells (.slice a len cap)).toList = some x) :
    ∃ bs : List Bool, bs.length = len ∧ len ≤ maxLen ∧ RdRow W a (boolRow bs) := by
  obtain ⟨fuel, hf⟩ := h
  rcases open_bools ht he hc hf with ⟨hcs, _⟩ | ⟨a', l, c, B, hcs, _, hl, hm, _, hcell⟩
  · simp [Value.cells] at hcs
    obtain ⟨rfl, rfl, rfl⟩ := hcs
    exact ⟨[], rfl, Nat.zero_le _, .inl rfl⟩
  · simp [Value.cells] at hcs
    obtain ⟨rfl, rfl, rfl⟩ := hcs
    refine ⟨(List.range len).map B, by simp, by omega, RdRow.of fun i v hv => ?_⟩
    simp only [boolRow, List.map_map, List.getElem?_map, Option.map_eq_some_iff] at hv
    obtain ⟨n, hn, rfl⟩ := hv
    have hi := (List.getElem?_eq_some_iff.1 hn).1
    simp at hi
    simp [hi] at hn
    subst hn
    exact hcell i (by omega)
end

end Go.Proofs.Ytoanelahjgaojaa
