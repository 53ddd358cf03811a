/- A slice of calls (a number, a text, a number, a byte) as an argument: what it is read as. Of no program. -/
import Derived.Test.YthdhcllljmkamaaDiskGreat
import Derived.Deep.Slices
import Derived.Deep.Fields
import Derived.ChangeSame
import Derived.SizedLaws
namespace Go.Proofs.Ythdhcllljmkamaa
open Go.RowKit Go.ChangeShapes Go.WideShapes Go.Deep
set_option linter.unusedVariables false

theorem list_of {α : Type} {R : Nat → α → Prop} : ∀ (n : Nat), (∀ i, i < n → ∃ c, R i c) → ∃ l : List α, l.length = n ∧ ∀ i (h : i < l.length), R i l[i]
  | 0, _ => ⟨[], rfl, fun i h => by simp at h⟩
  | n + 1, h => by
    obtain ⟨l, hl, hr⟩ := list_of n (fun i hi => h i (by omega))
    obtain ⟨c, hc⟩ := h n (by omega)
    refine ⟨l ++ [c], by simp [hl], fun i hi => ?_⟩
    by_cases e : i < l.length
    · rw [List.getElem_append_left e]; exact hr i e
    · have e2 : i = n := by simp at hi; omega
      subst e2
      rw [List.getElem_append_right (by omega)]
      simpa [hl] using hc
theorem callRow_len (cs : List DCall) : (callRow cs).length = cs.length * 4 := by
  induction cs with
  | nil => rfl
  | cons c cs ih =>
    show (callCells c ++ callRow cs).length = _
    rw [List.length_append, ih, List.length_cons]
    simp [callCells]
    omega
section
variable {H : Type} {enc : TypeId × Value → H} {P : Program} {W : World} {base : Nat} {held : Bool}
theorem field_cell {n j : Nat} {f : Field} {cs : List Value} {xs : List (DataW H × List MemPlace)} (ho : f.offset = j) (hk : P.cellsOf f.type = 1) (hx : j < xs.length)
    (h : DataW.trod enc P W base (fun _ => true) held n f.type ((cs.drop f.offset).take (P.cellsOf f.type)) = xs[j]?) : ∃ y, DataW.trod enc P W base (fun _ => true) held n f.type ((cs.drop j).take 1) = some y := by
  rw [ho, hk] at h
  exact ⟨xs[j], h.trans (List.getElem?_eq_getElem hx)⟩
theorem one_at {cs : List Value} {j : Nat} {v : Value} (h : (cs.drop j).take 1 = [v]) : cs[j]? = some v := by
  have : ((cs.drop j).take 1)[0]? = some v := by rw [h]; rfl
  rw [List.getElem?_take_of_lt (by omega), List.getElem?_drop, Nat.add_zero] at this
  exact this
theorem opened_calls {t e : TypeId} {f0 f1 f2 f3 : Field} (ht : P.underlying t = some (.slice e)) (he : P.underlying e = some (.struct #[f0, f1, f2, f3])) (hone : oneCellFields P #[f0, f1, f2, f3] = true) (hC : P.cellsOf e = 4)
    (k0 : P.underlying f0.type = some (.int .i64)) (k1 : P.underlying f1.type = some .string) (k2 : P.underlying f2.type = some (.int .i64)) (k3 : P.underlying f3.type = some (.int .u8)) {a : Option Addr} {len cap : Nat} {x : DataW H × List MemPlace}
    (h : ∃ fuel, DataW.trod enc P W base (fun _ => true) held fuel t (Value.cells (.slice a len cap)).toList = some x) :
    ∃ cs : List DCall, cs.length = len ∧ RdRow W a (callRow cs) ∧ (len = 0 ∨ ∃ es sp, x.1 = .slice es sp ∧ es.length = len) := by
  obtain ⟨fuel, hf⟩ := h
  rcases open_slice ht hf with ⟨hcs, hx⟩ | ⟨a', l, c, m, n, D, Pl, hcs, _, hl, hm, hmm, hx, hi⟩
  · simp [Value.cells] at hcs
    obtain ⟨rfl, rfl, rfl⟩ := hcs
    exact ⟨[], rfl, .inl rfl, .inl rfl⟩
  · simp [Value.cells] at hcs
    obtain ⟨rfl, rfl, rfl⟩ := hcs
    simp only [if_true] at hmm
    have key : ∀ i, i < len → ∃ c : DCall, ∀ j, j < 4 → W.cell? (a'.add (i * 4 + j)) = (callCells c)[j]? := by
      intro i hil
      obtain ⟨cs', hc, ht'⟩ := hi i (by omega)
      rw [hC] at hc
      obtain ⟨_, hcl, hat⟩ := World.cells?_some hc
      obtain ⟨xs, n', _, _, _, hxl, hfl⟩ := DataW.trod_struct he ht'
      have hxl4 : xs.length = 4 := hxl
      obtain ⟨o0, q0⟩ := hone_of hone 0 f0 rfl
      obtain ⟨o1, q1⟩ := hone_of hone 1 f1 rfl
      obtain ⟨o2, q2⟩ := hone_of hone 2 f2 rfl
      obtain ⟨o3, q3⟩ := hone_of hone 3 f3 rfl
      obtain ⟨y0, t0⟩ := field_cell o0 q0 (by omega) (hfl 0 f0 rfl)
      obtain ⟨y1, t1⟩ := field_cell o1 q1 (by omega) (hfl 1 f1 rfl)
      obtain ⟨y2, t2⟩ := field_cell o2 q2 (by omega) (hfl 2 f2 rfl)
      obtain ⟨y3, t3⟩ := field_cell o3 q3 (by omega) (hfl 3 f3 rfl)
      obtain ⟨kind, e0, _, _⟩ := DataW.trod_int k0 t0
      obtain ⟨s, e1, _, _⟩ := DataW.trod_string k1 t1
      obtain ⟨num, e2, _, _⟩ := DataW.trod_int k2 t2
      obtain ⟨b, e3, _, hb⟩ := DataW.trod_int k3 t3
      have hb2 := wf_u8 hb
      refine ⟨⟨kind, s, num, UInt8.ofNat b.toNat⟩, fun j hj => ?_⟩
      rw [← Go.Deep.add_add, hat j hj]
      obtain rfl | rfl | rfl | rfl : j = 0 ∨ j = 1 ∨ j = 2 ∨ j = 3 := by omega
      · exact one_at e0
      · exact one_at e1
      · exact one_at e2
      · rw [one_at e3]
        show some (Value.int .u8 b) = some (Value.int .u8 ((UInt8.ofNat b.toNat).toNat : Int))
        rw [UInt8.toNat_ofNat', Nat.mod_eq_of_lt (by omega), Int.toNat_of_nonneg hb2.1]
    obtain ⟨cs, hcl, hcr⟩ := list_of len key
    refine ⟨cs, hcl, RdRow.of fun q v hq => ?_, .inr ⟨_, _, by rw [hx], by simp⟩⟩
    have hql : q < (callRow cs).length := (List.getElem?_eq_some_iff.1 hq).1
    rw [callRow_len] at hql
    have hqi : q / 4 < cs.length := by omega
    have e4 : q = q / 4 * 4 + q % 4 := by omega
    rw [e4] at hq ⊢
    rw [hcr _ hqi _ (by omega), ← callRow_at cs _ hqi _ (by omega)]
    exact hq
end

end Go.Proofs.Ythdhcllljmkamaa
