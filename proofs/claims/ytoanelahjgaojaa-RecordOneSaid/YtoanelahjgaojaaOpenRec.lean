/- Slices of writes and of holds as they come in. Of no program. -/
import Derived.Test.YtoanelahjgaojaaRecPure
import Derived.Deep.Slices
import Derived.Deep.Fields
import Derived.ChangeSame
import Derived.SizedLaws
namespace Go.Proofs.Ytoanelahjgaojaa
open Go.RowKit Go.ChangeShapes Go.WideShapes Go.Deep
set_option linter.unusedVariables false

theorem list_of {α : Type} {R : Nat → α → Prop} : ∀ (n : Nat), (∀ i, i < n → ∃ c, R i c) → ∃ l : List α, l.length = n ∧ ∀ i (h : i < l.length), R i l[i]
  | 0, _ => ⟨[], rfl, fun i h => by simp at h⟩
  | n + 1, h => by
    obtain ⟨l, hl, hr⟩ := list_of n (fun i hi => h i (by omega))
    obtain ⟨c, hc⟩ := h n (by omega)
    refine ⟨l ++ [c], by simp [hl], fun i hi => ?_⟩
    by_cases e : i < l.length
    · rw [List.getElem_append_left e]; exact hr i e
    · have e2 : i = n := by simp at hi; omega
      subst e2
      rw [List.getElem_append_right (by omega)]
      simpa [hl] using hc
theorem row_len {α : Type} (f : α → List Value) (n : Nat) (hf : ∀ x, (f x).length = n) (l : List α) : (l.flatMap f).length = l.length * n := by
  induction l with
  | nil => simp
  | cons c cs ih => rw [List.flatMap_cons, List.length_append, ih, hf, List.length_cons, Nat.add_mul]; omega
section
variable {H : Type} {enc : TypeId × Value → H} {P : Program} {W : World} {base : Nat} {held : Bool}
theorem field_cell {n j : Nat} {f : Field} {cs : List Value} {xs : List (DataW H × List MemPlace)} (ho : f.offset = j) (hk : P.cellsOf f.type = 1) (hx : j < xs.length)
    (h : DataW.trod enc P W base (fun _ => true) held n f.type ((cs.drop f.offset).take (P.cellsOf f.type)) = xs[j]?) : DataW.trod enc P W base (fun _ => true) held n f.type ((cs.drop j).take 1) = some xs[j] := by
  rw [ho, hk] at h
  exact h.trans (List.getElem?_eq_getElem hx)
theorem one_at {cs : List Value} {j : Nat} {v : Value} (h : (cs.drop j).take 1 = [v]) : cs[j]? = some v := by
  have : ((cs.drop j).take 1)[0]? = some v := by rw [h]; rfl
  rw [List.getElem?_take_of_lt (by omega), List.getElem?_drop, Nat.add_zero] at this
  exact this
/-- Every element of a slice weighs what it weighs. -/
theorem weightsAll_mem {e : TypeId} {d : DataW H} {n : Nat} : ∀ {ds : List (DataW H)}, d ∈ ds → n ∈ d.weights P e → n ∈ DataW.weightsAll P e ds
  | d0 :: ds, hd, hn => by
    simp only [DataW.weightsAll, List.mem_append]
    rcases List.mem_cons.1 hd with rfl | hd
    · exact .inl hn
    · exact .inr (weightsAll_mem hd hn)
theorem opened_holds {t e : TypeId} {f0 f1 : Field} (ht : P.underlying t = some (.slice e)) (he : P.underlying e = some (.struct #[f0, f1])) (hone : oneCellFields P #[f0, f1] = true) (hC : P.cellsOf e = 2)
    (k0 : P.underlying f0.type = some .string) (k1 : P.underlying f1.type = some (.int .i64)) {a : Option Addr} {len cap : Nat} {x : DataW H × List MemPlace}
    (h : ∃ fuel, DataW.trod enc P W base (fun _ => true) held fuel t [.slice a len cap] = some x) :
    ∃ l : List PHold, l.length = len ∧ RdRow W a (hRow l) ∧ (∀ y ∈ l, in64 y.mode) ∧ ((∀ n ∈ x.1.weights P t, n ≤ reachBytes) → len * P.bytesOf e ≤ reachBytes ∧ ∀ y ∈ l, y.key.size ≤ reachBytes) := by
  obtain ⟨fuel, hf⟩ := h
  rcases open_slice ht hf with ⟨hcs, hx⟩ | ⟨a', l, c, m, n, D, Pl, hcs, _, hl, hm, hmm, hx, hi⟩
  · simp at hcs
    obtain ⟨rfl, rfl, rfl⟩ := hcs
    exact ⟨[], rfl, .inl rfl, fun y hy => by simp at hy, fun _ => ⟨by simp, fun y hy => by simp at hy⟩⟩
  · simp at hcs
    obtain ⟨rfl, rfl, rfl⟩ := hcs
    simp only [if_true] at hmm
    have key : ∀ i, i < len → ∃ c : PHold, (∀ j, j < 2 → W.cell? (a'.add (i * 2 + j)) = (hCells c)[j]?) ∧ in64 c.mode ∧ ((∀ n ∈ (D i).weights P e, n ≤ reachBytes) → c.key.size ≤ reachBytes) := by
      intro i hil
      obtain ⟨cs', hc, ht'⟩ := hi i (by omega)
      rw [hC] at hc
      obtain ⟨_, hcl, hat⟩ := World.cells?_some hc
      obtain ⟨xs, n', _, hD, _, hxl, hfl⟩ := DataW.trod_struct he ht'
      have hxl2 : xs.length = 2 := hxl
      obtain ⟨o0, q0⟩ := hone_of hone 0 f0 rfl
      obtain ⟨o1, q1⟩ := hone_of hone 1 f1 rfl
      have t0 := field_cell o0 q0 (by omega) (hfl 0 f0 rfl)
      have t1 := field_cell o1 q1 (by omega) (hfl 1 f1 rfl)
      obtain ⟨s, e0, z0, _⟩ := DataW.trod_string k0 t0
      obtain ⟨num, e1, _, hb⟩ := DataW.trod_int k1 t1
      refine ⟨⟨s, num⟩, fun j hj => ?_, wf_i64 hb, fun hw => ?_⟩
      · rw [← Go.Deep.add_add, hat j hj]
        obtain rfl | rfl : j = 0 ∨ j = 1 := by omega
        · exact one_at e0
        · exact one_at e1
      · have hD1 : D i = .agg (xs.map (·.1)) := (Prod.mk.injEq .. ▸ hD).1
        have hm0 := DataW.weights_mem_each (P := P) (ts := [f0.type, f1.type]) (ds := xs.map (·.1)) (j := 0) (t := f0.type) (d := xs[0].1) rfl (by rw [List.getElem?_map, List.getElem?_eq_getElem (by omega)]; rfl) s.data.toList.length (by rw [z0]; simp [DataW.weights])
        have := hw _ (by rw [hD1]; simp only [DataW.weights, he]; exact hm0)
        rw [ba_len] at this
        exact this
    obtain ⟨l, hll, hlr⟩ := list_of len key
    refine ⟨l, hll, RdRow.of fun q v hq => ?_, fun y hy => ?_, fun hw => ⟨?_, fun y hy => ?_⟩⟩
    · have hql : q < (hRow l).length := (List.getElem?_eq_some_iff.1 hq).1
      unfold hRow at hql
      rw [row_len hCells 2 (fun _ => rfl)] at hql
      have hqi : q / 2 < l.length := by omega
      have e4 : q = q / 2 * 2 + q % 2 := by omega
      rw [e4] at hq ⊢
      rw [(hlr _ hqi).1 _ (by omega), ← row_at hCells 2 (fun _ => rfl) l _ hqi _ (by omega)]
      exact hq
    · obtain ⟨i, hi, rfl⟩ := List.getElem_of_mem hy
      exact (hlr i hi).2.1
    · have := hw ((((List.range len).map D).length + ((List.range (m - len)).map fun j => D (len + j)).length) * P.bytesOf e) (by rw [hx]; simp [DataW.weights, ht])
      rw [List.length_map, List.length_range] at this
      exact Nat.le_trans (Nat.mul_le_mul_right _ (Nat.le_add_right ..)) this
    · obtain ⟨i, hi2, rfl⟩ := List.getElem_of_mem hy
      refine (hlr i hi2).2.2 fun n hn => hw n ?_
      rw [hx]
      simp only [DataW.weights, ht, List.mem_cons, List.mem_append]
      exact .inr (.inl (weightsAll_mem (List.mem_map.2 ⟨i, List.mem_range.2 (by omega), rfl⟩) hn))
theorem opened_writes {t e : TypeId} {f0 f1 f2 : Field} (ht : P.underlying t = some (.slice e)) (he : P.underlying e = some (.struct #[f0, f1, f2])) (hone : oneCellFields P #[f0, f1, f2] = true) (hC : P.cellsOf e = 3)
    (k0 : P.underlying f0.type = some .string) (k1 : P.underlying f1.type = some .string) (k2 : P.underlying f2.type = some .bool) {a : Option Addr} {len cap : Nat} {x : DataW H × List MemPlace}
    (h : ∃ fuel, DataW.trod enc P W base (fun _ => true) held fuel t [.slice a len cap] = some x) :
    ∃ l : List PWrite, l.length = len ∧ RdRow W a (wRow l) ∧ ((∀ n ∈ x.1.weights P t, n ≤ reachBytes) → len * P.bytesOf e ≤ reachBytes ∧ ∀ y ∈ l, y.key.size ≤ reachBytes ∧ y.val.size ≤ reachBytes) := by
  obtain ⟨fuel, hf⟩ := h
  rcases open_slice ht hf with ⟨hcs, hx⟩ | ⟨a', l, c, m, n, D, Pl, hcs, _, hl, hm, hmm, hx, hi⟩
  · simp at hcs
    obtain ⟨rfl, rfl, rfl⟩ := hcs
    exact ⟨[], rfl, .inl rfl, fun _ => ⟨by simp, fun y hy => by simp at hy⟩⟩
  · simp at hcs
    obtain ⟨rfl, rfl, rfl⟩ := hcs
    simp only [if_true] at hmm
    have key : ∀ i, i < len → ∃ c : PWrite, (∀ j, j < 3 → W.cell? (a'.add (i * 3 + j)) = (wCells c)[j]?) ∧ ((∀ n ∈ (D i).weights P e, n ≤ reachBytes) → c.key.size ≤ reachBytes ∧ c.val.size ≤ reachBytes) := by
      intro i hil
      obtain ⟨cs', hc, ht'⟩ := hi i (by omega)
      rw [hC] at hc
      obtain ⟨_, hcl, hat⟩ := World.cells?_some hc
      obtain ⟨xs, n', _, hD, _, hxl, hfl⟩ := DataW.trod_struct he ht'
      have hxl2 : xs.length = 3 := hxl
      obtain ⟨o0, q0⟩ := hone_of hone 0 f0 rfl
      obtain ⟨o1, q1⟩ := hone_of hone 1 f1 rfl
      obtain ⟨o2, q2⟩ := hone_of hone 2 f2 rfl
      have t0 := field_cell o0 q0 (by omega) (hfl 0 f0 rfl)
      have t1 := field_cell o1 q1 (by omega) (hfl 1 f1 rfl)
      have t2 := field_cell o2 q2 (by omega) (hfl 2 f2 rfl)
      obtain ⟨s, e0, z0, _⟩ := DataW.trod_string k0 t0
      obtain ⟨v, e1, z1, _⟩ := DataW.trod_string k1 t1
      obtain ⟨bl, e2, _⟩ := DataW.trod_bool k2 t2
      refine ⟨⟨s, v, bl⟩, fun j hj => ?_, fun hw => ?_⟩
      · rw [← Go.Deep.add_add, hat j hj]
        obtain rfl | rfl | rfl : j = 0 ∨ j = 1 ∨ j = 2 := by omega
        · exact one_at e0
        · exact one_at e1
        · exact one_at e2
      · have hD1 : D i = .agg (xs.map (·.1)) := (Prod.mk.injEq .. ▸ hD).1
        have hm0 := DataW.weights_mem_each (P := P) (ts := [f0.type, f1.type, f2.type]) (ds := xs.map (·.1)) (j := 0) (t := f0.type) (d := xs[0].1) rfl (by rw [List.getElem?_map, List.getElem?_eq_getElem (by omega)]; rfl) s.data.toList.length (by rw [z0]; simp [DataW.weights])
        have hm1 := DataW.weights_mem_each (P := P) (ts := [f0.type, f1.type, f2.type]) (ds := xs.map (·.1)) (j := 1) (t := f1.type) (d := xs[1].1) rfl (by rw [List.getElem?_map, List.getElem?_eq_getElem (by omega)]; rfl) v.data.toList.length (by rw [z1]; simp [DataW.weights])
        have g0 := hw _ (by rw [hD1]; simp only [DataW.weights, he]; exact hm0)
        have g1 := hw _ (by rw [hD1]; simp only [DataW.weights, he]; exact hm1)
        rw [ba_len] at g0 g1
        exact ⟨g0, g1⟩
    obtain ⟨l, hll, hlr⟩ := list_of len key
    refine ⟨l, hll, RdRow.of fun q v hq => ?_, fun hw => ⟨?_, fun y hy => ?_⟩⟩
    · have hql : q < (wRow l).length := (List.getElem?_eq_some_iff.1 hq).1
      unfold wRow at hql
      rw [row_len wCells 3 (fun _ => rfl)] at hql
      have hqi : q / 3 < l.length := by omega
      have e4 : q = q / 3 * 3 + q % 3 := by omega
      rw [e4] at hq ⊢
      rw [(hlr _ hqi).1 _ (by omega), ← row_at wCells 3 (fun _ => rfl) l _ hqi _ (by omega)]
      exact hq
    · have := hw ((((List.range len).map D).length + ((List.range (m - len)).map fun j => D (len + j)).length) * P.bytesOf e) (by rw [hx]; simp [DataW.weights, ht])
      rw [List.length_map, List.length_range] at this
      exact Nat.le_trans (Nat.mul_le_mul_right _ (Nat.le_add_right ..)) this
    · obtain ⟨i, hi2, rfl⟩ := List.getElem_of_mem hy
      refine (hlr i hi2).2 fun n hn => hw n ?_
      rw [hx]
      simp only [DataW.weights, ht, List.mem_cons, List.mem_append]
      exact .inr (.inl (weightsAll_mem (List.mem_map.2 ⟨i, List.mem_range.2 (by omega), rfl⟩) hn))
end

end Go.Proofs.Ytoanelahjgaojaa
