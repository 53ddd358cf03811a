/- append(v, s...) where s lies anywhere (nil too), v a row of the walk's own. -/
import Derived.Test.YthdhcllljmkamaaOpen
import Derived.Maps.AppendAt
namespace Go.Proofs.Ythdhcllljmkamaa
open Go.RowKit
set_option linter.unusedVariables false

theorem Fr.grown {w0 w w' : World} {row : Option Nat} (hf : Fr w0 w) (h : w.grownBy w' row) (hr : ∀ k, row = some k → w0.heap.size ≤ k) : Fr w0 w' := by
  refine ⟨h.os.trans hf.os, h.tape.trans hf.tape, h.output.trans hf.output, Nat.le_trans hf.size h.size, fun k hk => ?_⟩
  rw [h.block k (Nat.lt_of_lt_of_le hk hf.size) (fun e => by have := hr k e.symm; omega)]
  exact hf.block k hk

theorem run_append_none {P : Program} (w : World) (base : Nat) (t ty e : TypeId) (i : TypeInfo) (ht : P.underlying t = some (.slice e)) (hi : P.info? e = some i) (hsize : i.size = 1) (v : Value) (n : Nat) (xs : List Value) (hown : w.ownsRow base e 1 v n xs) (c : Nat) :
    (Builtin.append_ #[t, t] ty #[v, .slice none 0 c]).run P w = .ok v w := by
  rcases hown.2 with ⟨rfl, rfl⟩ | ⟨g, cap, cur, rfl, hb, hg, hnc, hcm, hcs, htake⟩
  · simp [Builtin.append_, run_underlying ht, sizeOf, typeInfo, hi, Builtin.lenOf, Builtin.firstCells]
  · simp [Builtin.append_, run_underlying ht, sizeOf, typeInfo, hi, Builtin.lenOf, Builtin.firstCells, hnc, storeCells]

theorem wpList_append_rd {P : Program} {w : World} {ops : Array Oper} {rest : List Oper} {o : Oper} {a : Act} {Q : Exit → Act → World → Prop} (hgd : o.guard = none) (s x : Operand) (t : TypeId)
    (ho : o.op = .call { callee := .builtin .append, args := #[s, x], argTypes := #[t, t] })
    (w0 : World) (e : TypeId) (i : TypeInfo) (z : Value) (bytes : Nat) (ht : P.underlying t = some (.slice e)) (hi : P.info? e = some i) (hz : i.zero = some z)
    (hsize : i.size = 1) (hby : i.bytes = bytes) (hzs : z.cells.size = 1)
    (v : Value) (n : Nat) (xs : List Value) (hs : a.eval s = v) (hown : w.ownsRow w0.heap.size e 1 v n xs)
    (ao : Option Addr) (m c : Nat) (news : List Value) (hx : a.eval x = .slice ao m c) (hl : news.length = m) (hr : RdRow w0 ao news) (h1 : ∀ u ∈ news, u.oneCell' = true)
    (h63 : n + m ≤ maxLen) (hbytes : (n + m) * bytes ≤ 140737488355328) (hf : Fr w0 w)
    (h : ∀ v' w', w'.ownsRow w0.heap.size e 1 v' (n + m) (xs ++ news) → Fr w0 w' → wpList P ops Q rest (a.put o.dst v') w') :
    wpList P ops Q (o :: rest) a w := by
  have hr2 := hr.fr hf
  cases ao with
  | none =>
    obtain rfl : news = [] := by
      rcases hr with h | ⟨b, o, h, _⟩
      · exact h
      · cases h
    obtain rfl : m = 0 := by simpa using hl.symm
    refine wpList_plain hgd fun K hK => ?_
    have hrun := run_append_none (P := P) w w0.heap.size t o.type e i ht hi hsize v n xs hown c
    unfold Oper.wp execOp
    simp only [ho, resolve, invoke, builtin, Sem.run_bind, Sem.run_pure, Result.andThen_ok, List.map_toArray, List.map_cons, List.map_nil, hs, hx, hrun]
    exact hK _ _ (h v w (by simpa using hown) hf)
  | some ad =>
    refine wpList_append_own_at w hgd s x t ho w0.heap.size e i z 1 bytes ht hi hz hsize hby hzs (by decide) v n xs hs hown ad m c news hx (by simpa using hl) ?_ h1 h63 hbytes hf.size ?_
    · intro j u hj
      obtain ⟨b, o, ha, hc⟩ := hr2.at hj
      injection ha with ha
      subst ha
      have he : (⟨b, o, none⟩ : Addr).add j = ⟨b, o + j, none⟩ := by simp [Addr.add]
      rw [he]
      exact hc
    · intro v' w' h2 h3 h4 h5
      exact h v' w' h2 (hf.grown h3 (fun k hk => (hown.lt k hk).1))

theorem own_rd {w : World} {base : Nat} {e : TypeId} {v : Value} {n : Nat} {xs : List Value} (h : w.ownsRow base e 1 v n xs) : ∃ ao cap, v = .slice ao n cap ∧ RdRow w ao xs := by
  rcases h.2 with ⟨rfl, rfl⟩ | ⟨g, cap, cur, rfl, _⟩
  · exact ⟨none, 0, rfl, .inl (by have := h.1; simpa using this)⟩
  · exact ⟨_, cap, rfl, RdRow.of (h.cells (g := g) rfl)⟩

theorem strRow_one (l : List ByteArray) : ∀ u ∈ strRow l, u.oneCell' = true := by
  intro u hu
  obtain ⟨x, _, rfl⟩ := List.mem_map.mp hu
  rfl
theorem intRow_one (l : List Int) : ∀ u ∈ intRow l, u.oneCell' = true := by
  intro u hu
  obtain ⟨x, _, rfl⟩ := List.mem_map.mp hu
  rfl

end Go.Proofs.Ythdhcllljmkamaa
