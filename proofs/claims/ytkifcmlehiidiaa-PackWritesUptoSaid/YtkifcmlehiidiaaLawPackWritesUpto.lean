/- PackWrites, where the bulk is bounded. -/
import Derived.Test.YtkifcmlehiidiaaRows
import Derived.Test.YtkifcmlehiidiaaPackWrites
import Derived.Carry
import Derived.Test.YtkifcmlehiidiaaOpen
import Derived.WalkKit
import Derived.JoinedCond
import Derived.SliceStrings
import Derived.ProofKit
import Derived.OpenShut
import Derived.ShutString
import Derived.ChangeOld
import Derived.Below
import Derived.SizedLaws
namespace Go.Proofs.Ytkifcmlehiidiaa.rowPackWritesUpto
open Go.ChangeShapes Go.WideShapes Go.ChangeAt Go.RowKit
open Go.ChangeMaps (open_string shut_string)
set_option linter.unusedVariables false
theorem own : ownKnob Try.prog.godebug = none := by kernel_rfl
theorem laidOut : laidOutB Try.prog = true := by kernel_rfl
theorem strs_bulk {H : Type} : ∀ (l : List ByteArray), bytesIn l ≤ Rows.uptoBulkAll (H := H) (strs l)
  | [] => by simp [bytesIn]
  | s :: l => by
    have h := strs_bulk (H := H) l
    have e : bytesIn (s :: l) = s.size + bytesIn l := by simp [bytesIn]
    have e2 : Rows.uptoBulkAll (H := H) (strs (s :: l)) = s.data.toList.length + 1 + Rows.uptoBulkAll (H := H) (strs l) := rfl
    rw [e, e2, ba_len]
    omega
theorem bytesIn_mem : ∀ {l : List ByteArray} {x : ByteArray}, x ∈ l → x.size ≤ bytesIn l
  | s :: l, x, h => by
    have e : bytesIn (s :: l) = s.size + bytesIn l := by simp [bytesIn]
    rcases List.mem_cons.mp h with rfl | h
    · omega
    · have := bytesIn_mem h
      omega
theorem opened_strs_bulk {H : Type} {enc : TypeId × Value → H} {P : Program} {W : World} {base : Nat} {held : Bool} {t e : TypeId} (ht : P.underlying t = some (.slice e)) (he : P.underlying e = some .string) (hc : P.cellsOf e = 1) {a : Option Addr} {len cap : Nat} {d : DataW H} {ps : List MemPlace}
    (h : ∃ fuel, DataW.trod enc P W base (fun _ => true) held fuel t (Value.cells (.slice a len cap)).toList = some (d, ps)) :
    ∃ ss : List ByteArray, ss.length = len ∧ len ≤ maxLen ∧ RdRow W a (strRow ss) ∧ bytesIn ss ≤ Rows.uptoBulk d := by
  obtain ⟨fuel, hf⟩ := h
  rcases open_strings ht he hc hf with ⟨hcs, _⟩ | ⟨a', l, c, zs, hcs, _, hl, hm, hz, hx, hcell, hwz⟩
  · simp [Value.cells] at hcs
    obtain ⟨rfl, rfl, rfl⟩ := hcs
    exact ⟨[], rfl, Nat.zero_le _, .inl rfl, by simp [bytesIn]⟩
  · simp [Value.cells] at hcs
    obtain ⟨rfl, rfl, rfl⟩ := hcs
    simp only [if_true] at hz
    refine ⟨zs.take len, by rw [List.length_take]; omega, by omega, RdRow.of fun i v hv => ?_, ?_⟩
    · simp only [strRow, List.getElem?_map, Option.map_eq_some_iff] at hv
      obtain ⟨n, hn, rfl⟩ := hv
      have hi := (List.getElem?_eq_some_iff.1 hn).1
      rw [List.length_take] at hi
      rw [hcell i (by omega)]
      rw [List.getElem?_take_of_lt (by omega)] at hn
      simp [List.getD_eq_getElem?_getD, hn]
    · injection hx with hd _
      rw [hd]
      have := strs_bulk (H := H) (zs.take len)
      simp only [Rows.uptoBulk]
      omega
theorem contract (H : Type) (enc : TypeId × Value → H) (W : World) (base : Nat) (args : Array Value) (ds gs : List (DataW H)) (before : List MemPlace)
    (hval0 : ∀ (j : Nat) t v, Try.f7.params[j]? = some t → args[j]? = some v → Value.okWide Try.prog W .any base t v)
    (hW : DataW.Whole enc Try.prog Try.f7.params.toList Rows.packWritesSpec.vars false W args.toList ds gs before) (hk : Rows.uptoSmall H (ds ++ gs) = true) :
    Calls Try.prog 7 args W fun e W' => ∃ v, e = .returned v ∧ Rows.packWritesSpec.post enc Try.prog Try.f7 false true false false W args v W' := by
  have hval : ∀ (j : Nat) t v, Try.f7.params[j]? = some t → args[j]? = some v → Value.okWide Try.prog W .any base t v := hval0
  have hW' := hW
  obtain ⟨p, q, hA0, hV, rfl, hfz, hnd⟩ := hW
  have hA : DataW.TrodAll enc Try.prog W 0 (fun _ => true) true Try.f7.params.toList args.toList ds p := hA0
  rw [Try.params7] at hA hval
  obtain ⟨v0, vs0, d0, ds0, p0, q0, hargs, rfl, rfl, h0, r0⟩ := trodAll_cons hA
  obtain ⟨v1, vs1, d1, ds1, p1, q1, rfl, rfl, rfl, h1, r1⟩ := trodAll_cons r0
  obtain ⟨v2, vs2, d2, ds2, p2, q2, rfl, rfl, rfl, h2, r2⟩ := trodAll_cons r1
  obtain ⟨rfl, rfl, rfl⟩ := trodAll_nil r2
  obtain rfl : args = #[v0, v1, v2] := by cases args; simp_all
  obtain ⟨rfl, rfl⟩ := trodVars_none hV
  obtain ⟨a0, len0, cap0, rfl⟩ := okWide_slice Try.underlying35 (hval 0 35 v0 rfl rfl)
  have k0 := h0
  have lt0 : ∀ x ∈ p0, x.block < W.heap.size := by obtain ⟨m, hm⟩ := k0; exact DataW.trod_lt m _ _ _ hm
  obtain ⟨z0, rfl, m0, rd0, x0⟩ := opened_ints Try.underlying35 Try.underlying3 (by kernel_rfl) h0
  obtain ⟨a1, len1, cap1, rfl⟩ := okWide_slice Try.underlying36 (hval 1 36 v1 rfl rfl)
  have k1 := h1
  have lt1 : ∀ x ∈ p1, x.block < W.heap.size := by obtain ⟨m, hm⟩ := k1; exact DataW.trod_lt m _ _ _ hm
  obtain ⟨z1, rfl, m1, rd1, hx1⟩ := opened_strs_bulk Try.underlying36 Try.underlying9 (by kernel_rfl) h1
  obtain ⟨a2, len2, cap2, rfl⟩ := okWide_slice Try.underlying47 (hval 2 47 v2 rfl rfl)
  have k2 := h2
  have lt2 : ∀ x ∈ p2, x.block < W.heap.size := by obtain ⟨m, hm⟩ := k2; exact DataW.trod_lt m _ _ _ hm
  obtain ⟨z2, rfl, m2, rd2⟩ := opened_bools Try.underlying47 Try.underlying4 (by kernel_rfl) h2
  clear hA0 hval0
  have hbulk : Rows.uptoBulkAll (d0 :: d1 :: d2 :: []) ≤ 1048576 := by simpa using of_decide_eq_true hk
  simp only [Rows.uptoBulkAll] at hbulk
  have x1 : bytesIn z1 ≤ 1048576 := by omega
  refine (pack_writes_row W a0 cap0 z0 m0 rd0 x0 a1 cap1 z1 m1 rd1 x1 (fun x hx => Nat.le_trans (bytesIn_mem hx) x1) a2 cap2 z2 m2 rd2).mono fun e W' ⟨he, bel⟩ => ?_
  subst he
  exact ⟨_, rfl, _, _, _, [], _, [], hW', trodAll_mk1 (shut_bool Try.underlying4 _), trodAll_cons_mk (Below.trod laidOut (by kernel_rfl) (of_decide_eq_true (by kernel_rfl)) k0 bel lt0) (trodAll_cons_mk (Below.trod laidOut (by kernel_rfl) (of_decide_eq_true (by kernel_rfl)) k1 bel lt1) (trodAll_cons_mk (Below.trod laidOut (by kernel_rfl) (of_decide_eq_true (by kernel_rfl)) k2 bel lt2) trodAll_mk0)), rfl, bel.frame _, fun h => by cases h⟩
set_option maxRecDepth 100000 in
theorem lifted (os : Os) (started : os.Started) (H : Type) (enc : TypeId × Value → H) (F : Stop.Interp) :
    ReturnsInHanded {} Try.checked os 7 .any ((Rows.OpenSpec.upto Rows.packWritesSpec).pre6 enc Try.prog Try.f7 Rows.packWritesUptoRow.domain false) (((Rows.OpenSpec.upto Rows.packWritesSpec).at F).post enc Try.prog Try.f7 false true false false) := by
  refine returnsInHanded_of_cond (C := Try.checked) (s := Rows.OpenSpec.upto Rows.packWritesSpec) (k := Rows.uptoSmall) rfl own started (by kernel_rfl) Try.func7
    (OpenSpec.witness (enc := enc) (C := Try.checked) (s := Rows.OpenSpec.upto Rows.packWritesSpec) (k := Rows.uptoSmall) rfl false ⟨#[], #[.slice none 0 0, .slice none 0 0, .slice none 0 0], []⟩ 8 (by kernel_rfl) (by kernel_rfl) (by kernel_rfl)
      (x := ([.nil, .nil, .nil], [], [])) (by kernel_rfl) rfl (by kernel_rfl)) ?_
  intro W base args ds gs before hval hW _ hk _
  exact contract H enc W base args ds gs before hval hW hk

theorem proved : Rows.PackWritesUptoSaid :=
  OpenClaim.holds_of_cond 7 Try.f7 rfl rfl rfl rfl rfl rfl rfl ⟨rfl, rfl, rfl, rfl, rfl⟩ rfl rfl rfl rfl rfl (by kernel_rfl) Try.func7 (by kernel_rfl)
    (of_decide_eq_true (by kernel_rfl)) (by unfold Func.isWrapper; first | (rw [if_pos (by decide +kernel)]; kernel_rfl) | (rw [if_neg (by decide +kernel)]; exact ⟨rfl, rfl⟩))
    (fun os started H enc _ F => lifted os started H enc F)
#print axioms proved
end Go.Proofs.Ytkifcmlehiidiaa.rowPackWritesUpto
