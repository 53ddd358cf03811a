/- A slice of bytes that is appended to, cut short and turned in place. Of no program. -/
import Derived.Test.YthdhcllljmkamaaAppS
import Derived.Test.YthdhcllljmkamaaOpen
namespace Go.Proofs.Ythdhcllljmkamaa
open Go.RowKit
set_option linter.unusedVariables false

/-- The value v holds the bytes bs in a block of its own, or none; E: a byte's type. -/
def dRow (E : TypeId) (w : World) (v : Value) (bs : List UInt8) : Prop :=
  w.ownsRow 0 E 1 v bs.length (Lib.byteCells bs) ∨
  ∃ b cur, v = .slice (some ⟨b, 0, none⟩) bs.length bs.length ∧ w.heap[b]? = some (.cells cur E (0, 0)) ∧ bs.length ≤ cur.size ∧ cur.size ≤ maxLen ∧ cur.toList.take bs.length = Lib.byteCells bs

theorem dRow.nil (E : TypeId) (w : World) : dRow E w (.slice none 0 0) [] := .inl (World.ownsRow_nil w 0 E 1)
/-- The forms that it has. -/
theorem dRow.form {E : TypeId} {w : World} {v : Value} {bs : List UInt8} (h : dRow E w v bs) :
    (v = .slice none 0 0 ∧ bs = []) ∨ ∃ b c cur, v = .slice (some ⟨b, 0, none⟩) bs.length c ∧ w.heap[b]? = some (.cells cur E (0, 0)) ∧ bs.length ≤ c ∧ c ≤ maxLen ∧ bs.length ≤ cur.size ∧ cur.size ≤ maxLen ∧ cur.toList.take bs.length = Lib.byteCells bs := by
  rcases h with h | ⟨b, cur, h1, h2, h3, h4, h5⟩
  · rcases h.2 with ⟨h1, h2⟩ | ⟨b, c, cur, h1, _, h2, h3, h4, h5, h6⟩
    · exact .inl ⟨h1, by simpa using h2⟩
    · exact .inr ⟨b, c, cur, h1, h2, h3, h4, by omega, by omega, by simpa using h6⟩
  · exact .inr ⟨b, _, cur, h1, h2, Nat.le_refl _, by omega, h3, h4, h5⟩
theorem dRow.keep {E : TypeId} {w w' : World} {v : Value} {bs : List UInt8} (h : dRow E w v bs) (hk : ∀ k, v.ownBlock = some k → w'.heap[k]? = w.heap[k]?) : dRow E w' v bs := by
  rcases h with h | ⟨b, cur, rfl, h2, h3⟩
  · exact .inl (row_keep h hk)
  · exact .inr ⟨b, cur, rfl, (hk b rfl).trans h2, h3⟩
theorem dRow.lt {E : TypeId} {w : World} {v : Value} {bs : List UInt8} (h : dRow E w v bs) : ∀ k, v.ownBlock = some k → k < w.heap.size := by
  intro k hk
  rcases h.form with ⟨rfl, _⟩ | ⟨b, c, cur, rfl, h2, _⟩
  · simp [Value.ownBlock] at hk
  · simp [Value.ownBlock] at hk
    subst hk
    exact blk_lt h2
theorem dRow.types {E : TypeId} {w : World} {v : Value} {bs : List UInt8} {g : Nat} {cs : Array Value} {T : TypeId} {fr : Nat × Nat} (h : dRow E w v bs) (hb : w.heap[g]? = some (.cells cs T fr)) (hT : T ≠ E) : v.ownBlock ≠ some g := by
  rcases h.form with ⟨rfl, _⟩ | ⟨b, c, cur, rfl, h2, _⟩
  · simp [Value.ownBlock]
  · intro h
    simp [Value.ownBlock] at h
    subst h
    rw [hb] at h2
    injection h2 with h2
    injection h2 with _ ht
    exact hT ht
theorem byteCells_at (bs : List UInt8) (i : Nat) : (Lib.byteCells bs)[i]? = bs[i]?.map fun c => Value.int .u8 c.toNat := by simp [Lib.byteCells]
theorem byteCells_take (bs : List UInt8) (n : Nat) : (Lib.byteCells bs).take n = Lib.byteCells (bs.take n) := by simp [Lib.byteCells, List.map_take]
theorem byteCells_append (a b : List UInt8) : Lib.byteCells (a ++ b) = Lib.byteCells a ++ Lib.byteCells b := by simp [Lib.byteCells]
theorem byteCells_len (a : List UInt8) : (Lib.byteCells a).length = a.length := by simp [Lib.byteCells]
theorem cell_of_take {w : World} {b : Nat} {cur : Array Value} {E : TypeId} {n i : Nat} {bs : List UInt8} (h : w.heap[b]? = some (.cells cur E (0, 0))) (ht : cur.toList.take n = Lib.byteCells bs) (hi : i < bs.length) (hn : bs.length ≤ n) :
    w.cell? ⟨b, i, none⟩ = some (.int .u8 bs[i].toNat) := by
  rw [Lib.cell_of_heap h]
  have h1 : (cur.toList.take n)[i]? = some (.int .u8 bs[i].toNat) := by rw [ht, byteCells_at, List.getElem?_eq_getElem hi]; rfl
  rw [List.getElem?_take_of_lt (by omega)] at h1
  rw [← Array.getElem?_toList]
  exact h1
theorem dRow.cell {E : TypeId} {w : World} {b c : Nat} {n : Nat} {bs : List UInt8} (h : dRow E w (.slice (some ⟨b, 0, none⟩) n c) bs) {i : Nat} (hi : i < bs.length) : w.cell? ⟨b, i, none⟩ = some (.int .u8 bs[i].toNat) := by
  rcases h.form with ⟨h1, _⟩ | ⟨b', c', cur, h1, h2, _, _, _, _, h5⟩
  · cases h1
  · injection h1 with h1 _ _
    injection h1 with h1
    injection h1 with h1
    subst h1
    exact cell_of_take h2 h5 hi (Nat.le_refl _)
/-- Cut short. -/
theorem dRow.cut {E : TypeId} {w : World} {ao : Option Addr} {l c : Nat} {bs : List UInt8} (h : dRow E w (.slice ao l c) bs) {n : Nat} (hn : n ≤ bs.length) : dRow E w (.slice ao n n) (bs.take n) := by
  rcases h.form with ⟨h1, rfl⟩ | ⟨b, c', cur, h1, h2, h3, h4, h5, h6, h7⟩
  · injection h1 with h1 h2 h3
    subst h1
    obtain rfl : n = 0 := by simpa using hn
    exact dRow.nil E w
  · injection h1 with h1 _ _
    subst h1
    have hl : (bs.take n).length = n := by rw [List.length_take]; omega
    refine .inr ⟨b, cur, by rw [hl], h2, by omega, h6, ?_⟩
    rw [hl, ← byteCells_take, ← h7, List.take_take, Nat.min_eq_left hn]
/-- One byte turned. -/
theorem dRow.set {E : TypeId} {w : World} {b n : Nat} {bs : List UInt8} (h : dRow E w (.slice (some ⟨b, 0, none⟩) n n) bs) (hn : n = bs.length) {i : Nat} (hi : i < bs.length) (x : UInt8) :
    dRow E (w.setCell ⟨b, i, none⟩ (.int .u8 x.toNat)) (.slice (some ⟨b, 0, none⟩) n n) (bs.set i x) := by
  rcases h.form with ⟨h1, _⟩ | ⟨b', c', cur, h1, h2, h3, h4, h5, h6, h7⟩
  · cases h1
  · injection h1 with h1 _ _
    injection h1 with h1
    injection h1 with h1
    subst h1
    subst hn
    refine .inr ⟨b, cur.setIfInBounds i (.int .u8 x.toNat), by simp, ?_, by simpa using h5, by simpa using h6, ?_⟩
    · simp [World.setCell, Array.getElem?_modify, h2]
    · rw [List.length_set, Array.toList_setIfInBounds, List.take_set, h7]
      simp [Lib.byteCells, List.map_set]
theorem dRow.read {E : TypeId} {w : World} {v : Value} {bs : List UInt8} (h : dRow E w v bs) : ∃ ao c, v = .slice ao bs.length c ∧ RdRow w ao (Lib.byteCells bs) := by
  rcases h.form with ⟨rfl, rfl⟩ | ⟨b, c, cur, rfl, h2, h3, h4, h5, h6, h7⟩
  · exact ⟨none, 0, rfl, .inl rfl⟩
  · refine ⟨_, c, rfl, .inr ⟨b, 0, rfl, fun i v hv => ?_⟩⟩
    rw [byteCells_at] at hv
    obtain ⟨x, hx, rfl⟩ := Option.map_eq_some_iff.1 hv
    obtain ⟨hi, rfl⟩ := List.getElem?_eq_some_iff.1 hx
    rw [Nat.zero_add]
    exact cell_of_take h2 h7 hi (Nat.le_refl _)

/-- append(v, s...). -/
theorem dRow.append {P : Program} (w : World) (t u ty e : TypeId) (i : TypeInfo) (ht : P.underlying t = some (.slice e)) (hu : P.underlying u = some .string) (hi : P.info? e = some i) (hz : i.zero = some (.int .u8 0))
    (hsize : i.size = 1) (hby : i.bytes = 1) (v : Value) (bs : List UInt8) (hown : dRow e w v bs) (s : ByteArray) (h63 : bs.length + s.size ≤ 140737488355328) :
    ∃ v' w', (Builtin.append_ #[t, u] ty #[v, .string s]).run P w = .ok v' w' ∧ dRow e w' v' (bs ++ s.data.toList) ∧ w.grownBy w' v.ownBlock ∧ (v'.ownBlock = v.ownBlock ∨ v'.ownBlock = some w.heap.size) := by
  have hl : (bs ++ s.data.toList).length = bs.length + s.size := by simp
  have hc : Lib.byteCells (bs ++ s.data.toList) = Lib.byteCells bs ++ Lib.strCells s := by rw [byteCells_append]; simp [Lib.byteCells, Lib.strCells]
  rcases hown with h | ⟨g, cur, rfl, h2, h3, h4, h5⟩
  · obtain ⟨v', w', hr, k1, k2, k3⟩ := append_string_at (P := P) w 0 t u ty e i ht hu hi hz hsize hby v bs.length _ h s (by unfold maxLen; omega) h63 (Nat.zero_le _)
    exact ⟨v', w', hr, .inl (by rw [hl, hc]; exact k1), k2, k3⟩
  · by_cases hm : s.size = 0
    · have hs0 : s.data.toList = [] := by
        apply List.eq_nil_of_length_eq_zero
        simpa using hm
      have hr := Lib.run_append_room_string (P := P) w t u ty e i ht hu hi hsize g bs.length bs.length cur h2 s (by omega) (by omega)
      refine ⟨_, _, hr, ?_, ⟨rfl, rfl, rfl, by simp, fun k _ hk => setRow_other w g k _ (fun e => hk (by simp [Value.ownBlock, e]))⟩, .inl rfl⟩
      have e1 : (cur.toList.take bs.length ++ Lib.strCells s ++ cur.toList.drop (bs.length + s.size)).toArray = cur := by
        rw [hm]
        have : Lib.strCells s = [] := List.eq_nil_of_length_eq_zero (by rw [Lib.strCells_length]; exact hm)
        rw [this]
        simp
      rw [e1, hs0, hm, List.append_nil]
      exact .inr ⟨g, cur, rfl, setRow_heap w g cur cur e _ h2, h3, h4, h5⟩
    · have holds : ∀ j u, (Lib.byteCells bs)[j]? = some u → w.cell? ((⟨g, 0, none⟩ : Addr).add j) = some u := by
        intro j u hj
        rw [byteCells_at] at hj
        obtain ⟨x, hx, rfl⟩ := Option.map_eq_some_iff.1 hj
        obtain ⟨hi, rfl⟩ := List.getElem?_eq_some_iff.1 hx
        have := cell_of_take h2 h5 hi (Nat.le_refl _)
        have e : (⟨g, 0, none⟩ : Addr).add j = ⟨g, j, none⟩ := by unfold Addr.add; split <;> simp_all
        rw [e]
        exact this
      have hr := Lib.run_append_grow_string (P := P) w t u ty e i (.int .u8 0) ht hu hi hz ⟨g, 0, none⟩ bs.length bs.length (Lib.byteCells bs) (by rw [hsize, byteCells_len, Nat.mul_one]) holds s (by omega) (by omega) (by rw [hby]; exact growslice_fits (by omega) (by omega))
      refine ⟨_, _, hr, .inl ⟨by rw [byteCells_len, Nat.mul_one], .inr ⟨w.heap.size, _, _, by rw [hl], Nat.zero_le _, heap_alloc_new w.drew _, ?_, grownCap_le_maxLen w (bs.length + s.size) _ e (by unfold maxLen; omega), ?_, ?_⟩⟩, ⟨rfl, rfl, rfl, by simp, fun k hk _ => Lib.alloc_old w.drew _ k hk⟩, .inr rfl⟩
      · rw [hl]; exact grownCap_ge w (bs.length + s.size) _ e
      · have hz1 : (Value.int IntKind.u8 0).cells.size = 1 := rfl
        have := grownCap_ge w (bs.length + s.size) bs.length e
        simp only [Array.size_append, List.size_toArray, size_zeroCells, hz1, byteCells_len, Lib.strCells_length]
        omega
      · rw [hc]
        simp only [Array.toList_append, List.append_assoc]
        rw [← List.append_assoc, show (bs ++ s.data.toList).length * 1 = (Lib.byteCells bs ++ Lib.strCells s).length by simp [byteCells_len, Lib.strCells_length]]
        exact List.take_left
theorem wpList_append_dRow {P : Program} {w : World} {ops : Array Oper} {rest : List Oper} {o : Oper} {a : Act} {Q : Exit → Act → World → Prop} (hgd : o.guard = none) (sl x : Operand) (t u : TypeId)
    (ho : o.op = .call { callee := .builtin .append, args := #[sl, x], argTypes := #[t, u] })
    (e : TypeId) (i : TypeInfo) (ht : P.underlying t = some (.slice e)) (hu : P.underlying u = some .string) (hi : P.info? e = some i) (hz : i.zero = some (.int .u8 0))
    (hsize : i.size = 1) (hby : i.bytes = 1)
    (v : Value) (bs : List UInt8) (hs : a.eval sl = v) (hown : dRow e w v bs) (s : ByteArray) (hx : a.eval x = .string s)
    (h63 : bs.length + s.size ≤ 140737488355328)
    (h : ∀ v' w', dRow e w' v' (bs ++ s.data.toList) → w.grownBy w' v.ownBlock → (v'.ownBlock = v.ownBlock ∨ v'.ownBlock = some w.heap.size) → wpList P ops Q rest (a.put o.dst v') w') : wpList P ops Q (o :: rest) a w := by
  refine wpList_plain hgd fun K hK => ?_
  obtain ⟨v', w', hr, h2, h3, h4⟩ := dRow.append (P := P) w t u o.type e i ht hu hi hz hsize hby v bs hown s h63
  unfold Oper.wp execOp
  simp only [ho, resolve, invoke, builtin, Sem.run_bind, Sem.run_pure, Result.andThen_ok, List.map_toArray, List.map_cons, List.map_nil, hs, hx, hr]
  exact hK _ _ (h v' w' h2 h3 h4)

end Go.Proofs.Ythdhcllljmkamaa
