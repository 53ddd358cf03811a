/- The walk of wal.Open. -/
import Derived.Test.YthdhcllljmkamaaWalOps
namespace Go.Proofs.Ythdhcllljmkamaa
open Go.RowKit
set_option linter.unusedVariables false

/-- What is left of a disk that was opened. -/
def lOpen (st : DSt) : DSt := { st with safe := st.all.take (wScan st.all).2, loose := [] }
theorem lOpen_wf {st : DSt} (h : st.wf) : (lOpen st).wf := by
  unfold DSt.wf at *
  show (st.all.take _ ++ []).length ≤ st.size ∧ st.size ≤ 262144
  rw [List.append_nil, List.length_take]
  omega
theorem lOpen_all (st : DSt) : (lOpen st).all = st.all.take (wScan st.all).2 := by
  show st.all.take _ ++ [] = _
  rw [List.append_nil]
theorem lOpen_trim (st : DSt) (h : st.down = false) : dTrim st ((wScan st.all).2 : Nat) = (0, lOpen st) := by
  have hle := (wScan_le st.all.length st.all (Nat.le_refl _)).1
  unfold dTrim
  rw [if_neg (by rw [h]; exact Bool.false_ne_true), if_neg (by omega), Int.toNat_natCast]
  rfl
def OpenPost (gd : Nat) (st : DSt) (S : Nat → Prop) (w : World) (e : Ending) (w' : World) : Prop :=
  ∃ gl v, e = .returned (.tuple #[.pointer (some ⟨gl, 0, none⟩), v, .int .i64 0]) ∧ Upd S (Sep [IsL gl gd (wScan st.all).1.length, IsRows v (wScan st.all).1, IsD gd (lOpen st)]) w w'

set_option maxHeartbeats 1000000 in
theorem wal_open (gd : Nat) (st : DSt) (S : Nat → Prop) (w : World) (hwf : st.wf) (hdn : st.down = false) (h : IsD gd st S w) :
    Calls Try.prog 33 #[.pointer (some ⟨gd, 0, none⟩)] w (OpenPost gd st S w) := by
  have H := Lib.hid h
  have hdown := d_down gd st S w h
  rw [hdn] at hdown
  have hread := d_read_up gd st S w h hdn
  have HDW := Lib.hid hdown
  have HRD := Lib.hid hread
  have HTR := Lib.hid (lOpen_trim st hdn)
  have hsz : (⟨st.all.toArray⟩ : ByteArray).size ≤ 1000000 := by
    have h1 := hwf.1
    have h2 := hwf.2
    show st.all.toArray.size ≤ _
    rw [List.size_toArray]
    omega
  have hlen : (wScan st.all).1.length ≤ 1000000 := by
    have h1 := hwf.1
    have h2 := hwf.2
    have := (wScan_le st.all.length st.all (Nat.le_refl _)).2
    omega
  have HLT : Hid (∀ k, S k → k < w.heap.size) := fun k hk => (IsD.local gd st).lt _ _ _ h hk
  clear h hdown hread hdn
  go_enter Try.func33, Try.ntmps33
  go_wp2_with fail
  refine HDW.out.mono ?_
  rintro e w1 ⟨rfl, rfl⟩
  go_wp2_with fail
  refine HRD.out.mono ?_
  rintro e w1 ⟨rfl, rfl⟩
  go_wp2_with fail
  refine (wal_scan ⟨st.all.toArray⟩ _ hsz).mono ?_
  rintro e w1 ⟨v, rfl, hown, hf⟩
  have hown' : w1.ownsRow w.heap.size 9 1 v (wScan st.all).1.length (recRow (wScan st.all).1) := hown
  have HO := Lib.hid hown'
  have HF := Lib.hid hf
  have hd1 : IsD gd st S w1 := (IsD.local gd st).keep _ _ _ H.out (fun k hk => hf.block k (HLT.out k hk))
  have HD1 := Lib.hid hd1
  obtain ⟨ao, c, rfl, _⟩ := own_rd hown'
  clear hown hown' hf hd1
  rw [show (wScan (⟨st.all.toArray⟩ : ByteArray).data.toList).2 = (wScan st.all).2 from rfl]
  generalize hn : (wScan st.all).1.length = n at *
  have HN := Lib.hid hn
  clear hn
  go_wp2_with fail
  refine (d_trim gd st _ S _ hwf HD1.out).mono ?_
  rintro e w2 ⟨rfl, hu⟩
  rw [HTR.out] at hu ⊢
  have HU := Lib.hid hu
  have HST := Lib.hid hu.step
  clear hu
  go_wp2
  go_ret3
  refine ⟨_, _, rfl, ?_⟩
  -- what lies where
  have hfw := HF.out
  have hown2 : w2.ownsRow w.heap.size 9 1 (.slice ao n c) n (recRow (wScan st.all).1) := row_keep HO.out (fun k hk => HST.out.block k (HO.out.lt k hk).2 (fun hS => by have h1 := HLT.out k hS; have h2 := (HO.out.lt k hk).1; omega))
  obtain ⟨S', k1, k2, k3⟩ := HU.out
  have hS' : ∀ k, S' k → k < w2.heap.size := fun k hk => (IsD.local gd (lOpen st)).lt _ _ _ k1 hk
  have hrow : ∀ k, Value.ownBlock (.slice ao n c) = some k → ¬ S' k := fun k hk hS => by
    have h2 := HO.out.lt k hk
    rcases k3 k hS with h | h
    · have := HLT.out k h; omega
    · omega
  have hw2 : w.heap.size ≤ w2.heap.size := Nat.le_trans hfw.size HST.out.size
  refine ⟨fun k => k = w2.heap.size ∨ some k = Value.ownBlock (.slice ao n c) ∨ S' k, ⟨fun k => k = w2.heap.size, fun k => some k = Value.ownBlock (.slice ao n c) ∨ S' k, ⟨?_, fun k => Iff.rfl⟩, ⟨fun k => some k = Value.ownBlock (.slice ao n c), S', ⟨?_, fun k => Iff.rfl⟩, ⟨S', fun _ => False, ?_, fun _ h => h, fun _ _ h => h, fun k => by simp⟩, fun k hk hS => hrow k hk.symm hS, fun k => Iff.rfl⟩, ?_, fun k => Iff.rfl⟩, ?_, ?_⟩
  · rw [HN.out]; exact Blk.new w2 _ _
  · have h3 := row_base (hown2.alloc (.cells #[.pointer (some ⟨gd, 0, none⟩), .int .i64 (n : Int)] 70))
    rw [HN.out]
    exact h3
  · exact (IsD.local gd (lOpen st)).keep _ _ _ k1 (fun k hk => Lib.alloc_old w2 _ k (hS' k hk))
  · rintro k rfl (hk | hk)
    · have := (hown2.lt _ hk.symm).2; omega
    · have := hS' _ hk; omega
  · exact ((Step.of_fr hfw).trans k2 (fun i hi => .inl hi)).alloc _
  · rintro k (rfl | hk | hk)
    · exact .inr hw2
    · exact .inr (HO.out.lt k hk.symm).1
    · rcases k3 k hk with h | h
      · exact .inl h
      · exact .inr (Nat.le_trans hfw.size h)
set_option maxHeartbeats 400000 in
theorem wal_open_down (gd : Nat) (st : DSt) (S : Nat → Prop) (w : World) (hdn : st.down = true) (h : IsD gd st S w) :
    Calls Try.prog 33 #[.pointer (some ⟨gd, 0, none⟩)] w fun e w' => e = .returned (.tuple #[.pointer none, .slice none 0 0, .int .i64 7]) ∧ w = w' := by
  have hdown := d_down gd st S w h
  rw [hdn] at hdown
  have HDW := Lib.hid hdown
  clear hdown h hdn
  go_enter Try.func33, Try.ntmps33
  go_wp2_with fail
  refine HDW.out.mono ?_
  rintro e w1 ⟨rfl, rfl⟩
  go_wp2
  go_ret3
  exact ⟨rfl, rfl⟩
set_option maxHeartbeats 400000 in
theorem wal_open_nil (w : World) :
    Calls Try.prog 33 #[.pointer none] w fun e w' => e = .returned (.tuple #[.pointer none, .slice none 0 0, .int .i64 2]) ∧ w = w' := by
  go_enter Try.func33, Try.ntmps33
  go_wp2
  go_ret3
  exact ⟨rfl, rfl⟩
set_option maxHeartbeats 400000 in
theorem wal_nil (s : ByteArray) (w : World) : (Calls Try.prog 34 #[.pointer none, .string s] w fun e w' => e = .returned (.int .i64 2) ∧ w = w') ∧
    (Calls Try.prog 35 #[.pointer none] w fun e w' => e = .returned (.int .i64 2) ∧ w = w') ∧
    (Calls Try.prog 38 #[.pointer none] w fun e w' => e = .returned (.int .i64 0) ∧ w = w') ∧
    (Calls Try.prog 37 #[.pointer none] w fun e w' => e = .returned (.int .i64 0) ∧ w = w') := by
  refine ⟨?_, ?_, ?_, ?_⟩
  · go_enter Try.func34, Try.ntmps34
    go_wp2
    go_ret
    exact ⟨rfl, rfl⟩
  · go_enter Try.func35, Try.ntmps35
    go_wp2
    go_ret
    exact ⟨rfl, rfl⟩
  · go_enter Try.func38, Try.ntmps38
    go_wp2
    go_ret
    exact ⟨rfl, rfl⟩
  · go_enter Try.func37, Try.ntmps37
    go_wp2
    go_ret
    exact ⟨rfl, rfl⟩
/-- One assertion that is several. -/
theorem Sep.flat : ∀ (L1 : List Asr) {L : List Asr} {S : Nat → Prop} {w : World}, Sep (Sep L1 :: L) S w → Sep (L1 ++ L) S w
  | [], L, S, w, ⟨S1, S2, h1, h2, hd, hu⟩ => by
    have : S = S2 := funext fun k => propext ((hu k).trans ⟨fun h => h.elim (fun h => (h1 k h).elim) id, .inr⟩)
    subst this
    exact h2
  | A :: L1, L, S, w, ⟨S1, S2, ⟨T1, T2, g1, g2, gd, gu⟩, h2, hd, hu⟩ => by
    refine ⟨T1, fun k => T2 k ∨ S2 k, g1, Sep.flat L1 ⟨T2, S2, g2, h2, fun k hk => hd k ((gu k).2 (.inr hk)), fun k => Iff.rfl⟩, ?_, ?_⟩
    · rintro k hk (h | h)
      · exact gd k hk h
      · exact hd k ((gu k).2 (.inl hk)) h
    · intro k
      rw [hu, gu]
      exact or_assoc
theorem Upd.flat {S0 : Nat → Prop} (L1 : List Asr) {L : List Asr} {w0 w : World} (h : Upd S0 (Sep (Sep L1 :: L)) w0 w) : Upd S0 (Sep (L1 ++ L)) w0 w := h.imp fun _ h => Sep.flat L1 h

end Go.Proofs.Ythdhcllljmkamaa
