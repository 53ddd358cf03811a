/- A record as it comes in. Of no program. -/
import Derived.Test.YtoanelahjgaojaaOpenRec
import Derived.Test.YtoanelahjgaojaaSliceLen
import Derived.Lib.SmallJoins
namespace Go.Proofs.Ytoanelahjgaojaa
open Go.RowKit Go.ChangeShapes Go.WideShapes Go.Deep Go.Joins
set_option linter.unusedVariables false

section
variable {H : Type} {enc : TypeId × Value → H} {P : Program} {W : World} {base : Nat} {held : Bool}
theorem opened_rec {r : Reach} {b0 : Nat} {t eN eW eH : TypeId} {f0 f1 f2 f3 f4 f5 g0 g1 g2 w0 w1 w2 h0 h1 : Field} {v : Value} {d : DataW H} {pl : List MemPlace}
    (hs : P.underlying t = some (.struct #[f0, f1, f2, f3, f4, f5])) (hC : P.cellsOf t = 8)
    (o : f0.offset = 0 ∧ f1.offset = 1 ∧ f2.offset = 4 ∧ f3.offset = 5 ∧ f4.offset = 6 ∧ f5.offset = 7)
    (q : P.cellsOf f0.type = 1 ∧ P.cellsOf f1.type = 3 ∧ P.cellsOf f2.type = 1 ∧ P.cellsOf f3.type = 1 ∧ P.cellsOf f4.type = 1 ∧ P.cellsOf f5.type = 1)
    (k0 : P.underlying f0.type = some (.int .i64)) (k1 : P.underlying f1.type = some (.struct #[g0, g1, g2])) (hone1 : oneCellFields P #[g0, g1, g2] = true)
    (j0 : P.underlying g0.type = some (.int .i64)) (j1 : P.underlying g1.type = some (.int .i64)) (j2 : P.underlying g2.type = some (.int .i64))
    (k2 : P.underlying f2.type = some (.slice eN)) (n1 : P.underlying eN = some (.int .i64)) (n2 : P.cellsOf eN = 1)
    (k3 : P.underlying f3.type = some (.slice eW)) (v1 : P.underlying eW = some (.struct #[w0, w1, w2])) (v2 : oneCellFields P #[w0, w1, w2] = true) (v3 : P.cellsOf eW = 3)
    (v4 : P.underlying w0.type = some .string) (v5 : P.underlying w1.type = some .string) (v6 : P.underlying w2.type = some .bool)
    (k4 : P.underlying f4.type = some (.slice eH)) (u1 : P.underlying eH = some (.struct #[h0, h1])) (u2 : oneCellFields P #[h0, h1] = true) (u3 : P.cellsOf eH = 2)
    (u4 : P.underlying h0.type = some .string) (u5 : P.underlying h1.type = some (.int .i64)) (k5 : P.underlying f5.type = some .string)
    (b : 1 ≤ P.bytesOf eN ∧ 1 ≤ P.bytesOf eW ∧ 1 ≤ P.bytesOf eH)
    (hv : Value.okWide P W r b0 t v) (h : DataW.Trod enc P W base (fun _ => true) held t v d pl) :
    ∃ x p, v = .agg (recCells x p) ∧ RecAt W x p ∧ ((∀ n ∈ d.weights P t, n ≤ reachBytes) → x.sized) := by
  obtain ⟨cs, rfl, hsz⟩ := okWide_struct hs hv
  obtain ⟨l⟩ := cs
  match l, hsz.trans hC with
  | [c0, c1, c2, c3, c4, c5, c6, c7], _ =>
    obtain ⟨fuel, hf⟩ := h
    obtain ⟨xs, n, _, hx, _, hlen, hg⟩ := DataW.trod_struct hs hf
    obtain ⟨o0, o1, o2, o3, o4, o5⟩ := o
    obtain ⟨q0, q1, q2, q3, q4, q5⟩ := q
    match xs, hlen with
    | [y0, y1, y2, y3, y4, y5], _ =>
      simp only [Prod.mk.injEq] at hx
      have g0' : DataW.trod enc P W base (fun _ => true) held n f0.type [c0] = some y0 := by simpa [Value.cells, o0, q0] using hg 0 f0 rfl
      have g1' : DataW.trod enc P W base (fun _ => true) held n f1.type [c1, c2, c3] = some y1 := by simpa [Value.cells, o1, q1] using hg 1 f1 rfl
      have g2' : DataW.trod enc P W base (fun _ => true) held n f2.type [c4] = some y2 := by simpa [Value.cells, o2, q2] using hg 2 f2 rfl
      have g3' : DataW.trod enc P W base (fun _ => true) held n f3.type [c5] = some y3 := by simpa [Value.cells, o3, q3] using hg 3 f3 rfl
      have g4' : DataW.trod enc P W base (fun _ => true) held n f4.type [c6] = some y4 := by simpa [Value.cells, o4, q4] using hg 4 f4 rfl
      have g5' : DataW.trod enc P W base (fun _ => true) held n f5.type [c7] = some y5 := by simpa [Value.cells, o5, q5] using hg 5 f5 rfl
      obtain ⟨kind, e0, _, i0⟩ := DataW.trod_int k0 g0'
      obtain ⟨zs, n', _, _, _, hzl, hfl⟩ := DataW.trod_struct k1 g1'
      have hzl3 : zs.length = 3 := hzl
      obtain ⟨p0, r0⟩ := hone_of hone1 0 g0 rfl
      obtain ⟨p1, r1⟩ := hone_of hone1 1 g1 rfl
      obtain ⟨p2, r2⟩ := hone_of hone1 2 g2 rfl
      obtain ⟨node, e1, _, i1⟩ := DataW.trod_int j0 (field_cell p0 r0 (by omega) (hfl 0 g0 rfl))
      obtain ⟨epoch, e2, _, i2⟩ := DataW.trod_int j1 (field_cell p1 r1 (by omega) (hfl 1 g1 rfl))
      obtain ⟨num, e3, _, i3⟩ := DataW.trod_int j2 (field_cell p2 r2 (by omega) (hfl 2 g2 rfl))
      obtain ⟨s, e7, z7, _⟩ := DataW.trod_string k5 g5'
      have hc4 : ∃ a len cap, c4 = .slice a len cap := by
        rcases open_slice k2 g2' with ⟨hh, _⟩ | ⟨a, len, cap, _, _, _, _, hh, _⟩
        · exact ⟨none, 0, 0, by simpa using hh⟩
        · exact ⟨_, _, _, by simpa using hh⟩
      have hc5 : ∃ a len cap, c5 = .slice a len cap := by
        rcases open_slice k3 g3' with ⟨hh, _⟩ | ⟨a, len, cap, _, _, _, _, hh, _⟩
        · exact ⟨none, 0, 0, by simpa using hh⟩
        · exact ⟨_, _, _, by simpa using hh⟩
      have hc6 : ∃ a len cap, c6 = .slice a len cap := by
        rcases open_slice k4 g4' with ⟨hh, _⟩ | ⟨a, len, cap, _, _, _, _, hh, _⟩
        · exact ⟨none, 0, 0, by simpa using hh⟩
        · exact ⟨_, _, _, by simpa using hh⟩
      obtain ⟨an, ln, cn, rfl⟩ := hc4
      obtain ⟨aw, lw, cw, rfl⟩ := hc5
      obtain ⟨ah, lh, ch, rfl⟩ := hc6
      obtain ⟨ns, rfl, _, hrn, hin⟩ := opened_ints k2 n1 n2 ⟨n, g2'⟩
      have hln := slice_len k2 ⟨n, g2'⟩
      obtain ⟨ws, rfl, hrw, hww⟩ := opened_writes k3 v1 v2 v3 v4 v5 v6 ⟨n, g3'⟩
      obtain ⟨hs', rfl, hrh, him, hwh⟩ := opened_holds k4 u1 u2 u3 u4 u5 ⟨n, g4'⟩
      simp only [List.cons.injEq, and_true] at e0 e7
      simp at e1 e2 e3
      subst e0 e1 e2 e3 e7
      refine ⟨⟨kind, node, epoch, num, ns, ws, hs', s⟩, ⟨an, cn, aw, cw, ah, ch⟩, rfl, ⟨hrn, hrw, hrh⟩, fun hw => ?_⟩
      have hmem : ∀ (j : Nat) (f : Field) (y : DataW H × List MemPlace), [f0, f1, f2, f3, f4, f5][j]? = some f → [y0, y1, y2, y3, y4, y5][j]? = some y → ∀ n ∈ y.1.weights P f.type, n ≤ reachBytes := by
        intro j f y hfj hyj m hm
        refine hw m ?_
        rw [hx.1]
        simp only [DataW.weights, hs]
        exact DataW.weights_mem_each (j := j) (t := f.type) (d := y.1) (by rw [List.getElem?_map]; show Option.map _ [f0, f1, f2, f3, f4, f5][j]? = _; rw [hfj]; rfl) (by rw [List.getElem?_map, hyj]; rfl) m hm
      have hR := reachBytes_lt
      have w2' := hmem 2 f2 y2 rfl rfl
      have w3' := hww (hmem 3 f3 y3 rfl rfl)
      have w4' := hwh (hmem 4 f4 y4 rfl rfl)
      have w5' := hmem 5 f5 y5 rfl rfl s.data.toList.length (by rw [z7]; simp [DataW.weights])
      rw [ba_len] at w5'
      have lnn : ns.length ≤ reachBytes := by
        rcases hln with ⟨_, h, _⟩ | ⟨_, _, es, sp, hd, hl⟩
        · omega
        · have := w2' ((es.length + sp.length) * P.bytesOf eN) (by rw [hd]; simp [DataW.weights, k2])
          rw [hl] at this
          exact Nat.le_trans (Nat.le_trans (Nat.le_add_right _ _) (Nat.le_mul_of_pos_right _ b.1)) this
      have lww : ws.length ≤ reachBytes := Nat.le_trans (Nat.le_mul_of_pos_right _ b.2.1) w3'.1
      have lhh : hs'.length ≤ reachBytes := Nat.le_trans (Nat.le_mul_of_pos_right _ b.2.2) w4'.1
      exact ⟨wf_i64 i0, wf_i64 i1, wf_i64 i2, wf_i64 i3, hin, him, by show ns.length ≤ _; omega, by show ws.length ≤ _; omega, by show hs'.length ≤ _; omega, w5', w3'.2, w4'.2⟩
end

end Go.Proofs.Ytoanelahjgaojaa
