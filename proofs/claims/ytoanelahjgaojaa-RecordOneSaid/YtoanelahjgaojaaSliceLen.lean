/- How long a slice that came in is, told by its datum. Of no program. -/
import Derived.Test.YtoanelahjgaojaaOpen
import Derived.Deep.Slices
import Derived.SizedLaws
namespace Go.Proofs.Ytoanelahjgaojaa
open Go.RowKit Go.ChangeShapes Go.WideShapes Go.Deep
set_option linter.unusedVariables false

section
variable {H : Type} {enc : TypeId × Value → H} {P : Program} {W : World} {base : Nat} {held : Bool}
theorem slice_len {t e : TypeId} (ht : P.underlying t = some (.slice e)) {a : Option Addr} {len cap : Nat} {x : DataW H × List MemPlace}
    (h : ∃ fuel, DataW.trod enc P W base (fun _ => true) held fuel t (Value.cells (.slice a len cap)).toList = some x) :
    (a = none ∧ len = 0 ∧ cap = 0) ∨ (∃ ad, a = some ad) ∧ len ≤ cap ∧ ∃ es sp, x.1 = .slice es sp ∧ es.length = len := by
  obtain ⟨fuel, hf⟩ := h
  rcases open_slice ht hf with ⟨hcs, hx⟩ | ⟨a', l, c, m, n, D, Pl, hcs, _, hl, hm, hmm, hx, hi⟩
  · simp [Value.cells] at hcs
    obtain ⟨rfl, rfl, rfl⟩ := hcs
    exact .inl ⟨rfl, rfl, rfl⟩
  · simp [Value.cells] at hcs
    obtain ⟨rfl, rfl, rfl⟩ := hcs
    exact .inr ⟨⟨_, rfl⟩, hl, _, _, by rw [hx], by simp⟩
end

end Go.Proofs.Ytoanelahjgaojaa
