/- The walks of wal.Log. -/
import Derived.Test.YthdhcllljmkamaaWalRef
import Derived.Test.YthdhcllljmkamaaDiskRoom
namespace Go.Proofs.Ythdhcllljmkamaa
open Go.RowKit
set_option linter.unusedVariables false

/-- A log in block gl on the disk in block gd, and how many records it has. -/
def IsL (gl gd : Nat) (cnt : Nat) : Asr := fun S w => Blk w gl 70 #[.pointer (some ⟨gd, 0, none⟩), .int .i64 (cnt : Int)] ∧ ∀ k, S k ↔ k = gl
theorem IsL.local (gl gd cnt : Nat) : LocalA (IsL gl gd cnt) := by
  refine ⟨?_, ?_⟩
  · rintro S w w' ⟨h1, h3⟩ hk
    exact ⟨h1.keep (hk gl ((h3 gl).2 rfl)), h3⟩
  · rintro S w k ⟨h1, h3⟩ hk
    rw [(h3 k).1 hk]
    exact h1.lt
/-- A list of records. -/
def IsRows (v : Value) (l : List (List UInt8)) : Asr := fun S w => w.ownsRow 0 9 1 v l.length (recRow l) ∧ ∀ k, S k ↔ some k = v.ownBlock
theorem IsRows.local (v : Value) (l : List (List UInt8)) : LocalA (IsRows v l) := by
  refine ⟨?_, ?_⟩
  · rintro S w w' ⟨h1, h3⟩ hk
    exact ⟨row_keep h1 (fun k h => hk k ((h3 k).2 h.symm)), h3⟩
  · rintro S w k ⟨h1, h3⟩ hk
    exact (h1.lt k ((h3 k).1 hk).symm).2
theorem row_base {w : World} {base : Nat} {e : TypeId} {size n : Nat} {v : Value} {xs : List Value} (h : w.ownsRow base e size v n xs) : w.ownsRow 0 e size v n xs := by
  refine ⟨h.1, ?_⟩
  rcases h.2 with h0 | ⟨b, cap, cur, rfl, hb, rest⟩
  · exact .inl h0
  · exact .inr ⟨b, cap, cur, rfl, Nat.zero_le _, rest⟩
theorem IsRows.read {v : Value} {l : List (List UInt8)} {S : Nat → Prop} {w : World} (h : IsRows v l S w) : ∃ ao cap, v = .slice ao l.length cap ∧ RdRow w ao (recRow l) := own_rd h.1
theorem cells2 {w : World} {g : Nat} {t : TypeId} {a b : Value} (h : Blk w g t #[a, b]) : w.cell? ⟨g, 0, none⟩ = some a ∧ w.cell? ⟨g, 1, none⟩ = some b ∧ w.frozen? ⟨g, 0, none⟩ = false ∧ w.frozen? ⟨g, 1, none⟩ = false := ⟨h.cell 0, h.cell 1, h.frozen 0, h.frozen 1⟩

def lAdd (st : DSt) (s : List UInt8) : Int × DSt := if st.down = true then (7, st) else if 65535 < s.length then (3, st) else dAppend st (wFrame s)
theorem lAdd_wf {st : DSt} (h : st.wf) (s : List UInt8) : (lAdd st s).2.wf := by
  unfold lAdd
  split
  · exact h
  split
  · exact h
  · exact dAppend_wf h _
theorem local_ld (gl gd cnt : Nat) (st : DSt) : ∀ B ∈ [IsL gl gd cnt, IsD gd st], LocalA B := by
  intro B hB
  simp only [List.mem_cons, List.not_mem_nil, or_false] at hB
  rcases hB with rfl | rfl
  · exact IsL.local gl gd cnt
  · exact IsD.local gd st
theorem local_l (gl gd cnt : Nat) : ∀ B ∈ [IsL gl gd cnt], LocalA B := by
  intro B hB
  simp only [List.mem_cons, List.not_mem_nil, or_false] at hB
  subst hB
  exact IsL.local gl gd cnt
/-- The parts of a log and its disk. -/
theorem ld_parts {gl gd cnt : Nat} {st : DSt} {S : Nat → Prop} {w : World} (h : Sep [IsL gl gd cnt, IsD gd st] S w) :
    Blk w gl 70 #[.pointer (some ⟨gd, 0, none⟩), .int .i64 (cnt : Int)] ∧ ∃ S2, IsD gd st S2 w ∧ (∀ k, S2 k → S k) ∧ ¬ S2 gl ∧ S gl ∧
      (∀ st' w', Upd S2 (IsD gd st') w w' → Upd S (Sep [IsL gl gd cnt, IsD gd st']) w w') := by
  obtain ⟨S1, T, h1, ⟨S2, T2, h2, h3, h4, h5⟩, hd, hu⟩ := h
  have hT : ∀ k, T k ↔ S2 k := fun k => by rw [h5]; exact ⟨fun h => h.elim id (fun h => (h3 k h).elim), .inl⟩
  refine ⟨h1.1, S2, h2, fun k hk => (hu k).2 (.inr ((hT k).2 hk)), fun hk => hd gl ((h1.2 gl).2 rfl) ((hT gl).2 hk), (hu gl).2 (.inl ((h1.2 gl).2 rfl)), fun st' w' hup => ?_⟩
  obtain ⟨S', k1, k2, k3⟩ := hup
  have hgl : gl < w.heap.size := h1.1.lt
  refine ⟨fun k => k = gl ∨ S' k, ⟨fun k => k = gl, S', ⟨h1.1.keep (k2.block gl hgl (fun hk => hd gl ((h1.2 gl).2 rfl) ((hT gl).2 hk))), fun k => Iff.rfl⟩, ⟨S', fun _ => False, k1, fun _ h => h, fun _ _ h => h, fun k => by simp⟩, ?_, fun k => Iff.rfl⟩, k2.mono (fun k hk => (hu k).2 (.inr ((hT k).2 hk))), ?_⟩
  · rintro k rfl hk
    rcases k3 _ hk with h | h
    · exact hd _ ((h1.2 _).2 rfl) ((hT _).2 h)
    · omega
  · rintro k (rfl | hk)
    · exact .inl ((hu _).2 (.inl ((h1.2 _).2 rfl)))
    · exact (k3 k hk).imp (fun h => (hu k).2 (.inr ((hT k).2 h))) id
theorem ld_count {gl gd cnt cnt' : Nat} {st : DSt} {S : Nat → Prop} {w w' : World} (hU : Upd S (Sep [IsL gl gd cnt, IsD gd st]) w w') (u : Value) (hu : u = .int .i64 (cnt' : Int)) :
    Upd S (Sep [IsL gl gd cnt', IsD gd st]) w (w'.setCell ⟨gl, 1, none⟩ u) := by
  subst hu
  obtain ⟨S', hS, hst, hsub⟩ := hU
  obtain ⟨S1, T, h1, h2, hd, hu⟩ := hS
  have hgl : S1 gl := (h1.2 gl).2 rfl
  refine ⟨S', ⟨S1, T, ⟨h1.1.set_ 1 _, h1.2⟩, (Sep.local [IsD gd st] (local1d gd st)).keep _ _ _ h2 (fun k hk => Below.heap_setCell _ _ _ _ (fun e => hd gl hgl (by have e' : k = gl := e; exact e' ▸ hk))), hd, hu⟩, ?_, hsub⟩
  have h3 : Step S' w' (w'.setCell ⟨gl, 1, none⟩ (.int .i64 (cnt' : Int))) := (Step.refl S' w').setCell ((hu gl).2 (.inl hgl)) _
  exact hst.trans h3 hsub

set_option maxHeartbeats 1000000 in
theorem wal_add (gl gd cnt : Nat) (st : DSt) (s : ByteArray) (S : Nat → Prop) (w : World) (hwf : st.wf) (hc : cnt ≤ 1000000) (hs : s.size ≤ 140737488351232) (h : Sep [IsL gl gd cnt, IsD gd st] S w) :
    Calls Try.prog 34 #[.pointer (some ⟨gl, 0, none⟩), .string s] w fun e w' => e = .returned (.int .i64 (lAdd st s.data.toList).1) ∧
      Upd S (Sep [IsL gl gd (if (lAdd st s.data.toList).1 = 0 then cnt + 1 else cnt), IsD gd (lAdd st s.data.toList).2]) w w' := by
  have H := Lib.hid h
  obtain ⟨hb, S2, hd, hsub, hn, hgl, hk⟩ := ld_parts h
  obtain ⟨c0, c1, f0, f1⟩ := cells2 hb
  have HB := Lib.hid hb
  have HD := Lib.hid hd
  have HK := Lib.hid hk
  have HN := Lib.hid hn
  clear hb hd hk h hsub hgl hn
  by_cases hdn : st.down = true
  · have hr : lAdd st s.data.toList = (7, st) := by unfold lAdd; rw [if_pos hdn]
    rw [hr]
    have hdown := d_down gd st S2 w HD.out
    rw [hdn] at hdown
    have HDW := Lib.hid hdown
    clear hdown hdn hr
    go_enter Try.func34, Try.ntmps34
    go_wp2_with fail
    refine HDW.out.mono ?_
    rintro e w1 ⟨rfl, rfl⟩
    go_wp2
    go_ret
    exact ⟨rfl, Upd.refl H.out⟩
  · have hdn2 : st.down = false := by simpa using hdn
    have hdown := d_down gd st S2 w HD.out
    rw [hdn2] at hdown
    have HDW := Lib.hid hdown
    by_cases hlong : 65535 < s.size
    · have hr : lAdd st s.data.toList = (3, st) := by unfold lAdd; rw [if_neg hdn, if_pos (by rw [ba_len]; exact hlong)]
      rw [hr]
      have hl2 : decide (65535 < (s.size : Int)) = true := decide_eq_true (show (65535 : Int) < (s.size : Int) by omega)
      clear hdown hdn hdn2 hr hlong
      go_enter Try.func34, Try.ntmps34
      go_wp2_with fail
      refine HDW.out.mono ?_
      rintro e w1 ⟨rfl, rfl⟩
      go_wp2
      go_ret
      exact ⟨rfl, Upd.refl H.out⟩
    · have hr : lAdd st s.data.toList = dAppend st (wFrame s.data.toList) := by unfold lAdd; rw [if_neg hdn, if_neg (by rw [ba_len]; exact hlong)]
      rw [hr]
      have hl2 : decide (65535 < (s.size : Int)) = false := decide_eq_false (show ¬ (65535 : Int) < (s.size : Int) by omega)
      have hfs : (baOf (wFrame s.data.toList)).size ≤ 140737488351232 := by rw [baOf_size, wFrame_len, ba_len]; omega
      obtain ⟨r, hrr⟩ : ∃ r, dAppend st (wFrame s.data.toList) = r := ⟨_, rfl⟩
      have HRR : Hid (dAppend st (baOf (wFrame s.data.toList)).data.toList = r) := hrr
      rw [hrr]
      have hr01 : r.1 = 0 ∨ r.1 = 6 := by
        rw [← hrr]; unfold dAppend; rw [if_neg hdn]; split
        · exact .inr rfl
        · exact .inl rfl
      obtain ⟨r1, r2⟩ := r
      have HLT : Hid (∀ k, S2 k → k < w.heap.size) := fun k hk => (IsD.local gd st).lt _ _ _ HD.out hk
      clear hdown hdn hdn2 hr hrr
      go_enter Try.func34, Try.ntmps34
      go_wp2_with fail
      refine HDW.out.mono ?_
      rintro e w1 ⟨rfl, rfl⟩
      go_wp2_with fail
      refine wp_region_pf [([0, 1, 2, 3, 4], 5), ([], 6)] [7] (fun W => W.cell? ⟨gl, 0, none⟩ = some (.pointer (some ⟨gd, 0, none⟩))) (by kernel_rfl) (by kernel_rfl) ?_ c0 ?_
      · intro c a d v w h
        cases d <;> exact h
      refine wpPF_cons ?_
      simp only [pickOps, lk]
      repeat (go_big_quiet_want; refine quiet_plain rfl ?_; go_big_quiet_op; go_big_quiet_on)
      go_big_quiet_want
      refine quiet_read (.pointer (some ⟨gd, 0, none⟩)) (fun W hW => ?_) ?_
      · have hW' : W.cell? ⟨gl, 0, none⟩ = some (.pointer (some ⟨gd, 0, none⟩)) := hW
        clear hW
        go_simp
      go_simp
      go_big_quiet_on
      repeat (go_big_quiet_want; refine quiet_plain rfl ?_; go_big_quiet_op; go_big_quiet_on)
      refine wpQuiet_nil (npOp_want rfl (fun K hK => ?_))
      go_wp2_with fail
      refine (wal_frame s _ (by omega)).mono ?_
      rintro e w2 ⟨rfl, hf⟩
      have hf' : Fr w w2 := ((Fr.refl w).drew).trans hf
      have HF := Lib.hid hf'
      have hb2 : Blk w2 gl 70 #[.pointer (some ⟨gd, 0, none⟩), .int .i64 (cnt : Int)] := HB.out.fr hf'
      have hd2 : IsD gd st S2 w2 := (IsD.local gd st).keep _ _ _ HD.out (fun k hk => hf'.block k (HLT.out k hk))
      have hc0 := hb2.cell 0
      have HB2 := Lib.hid hb2
      have HD2 := Lib.hid hd2
      clear hf hf' hb2 hd2 c0 c1 f0 f1
      go_wp2_with fail
      refine ⟨hc0, wpPF_cons ?_⟩
      simp only [pickOps, lk]
      refine wpQuiet_nil (npOp_want rfl (fun K hK => ?_))
      go_wp2_with fail
      refine (d_append gd st (baOf (wFrame s.data.toList)) S2 _ hwf hfs HD2.out).mono ?_
      rintro e w3 ⟨rfl, hu⟩
      rw [HRR.out] at hu ⊢
      have hU : Upd S (Sep [IsL gl gd cnt, IsD gd r2]) w w3 := HK.out r2 w3 (hu.back HF.out)
      have HU := Lib.hid hU
      have hb3 : Blk w3 gl 70 #[.pointer (some ⟨gd, 0, none⟩), .int .i64 (cnt : Int)] := HB2.out.keep (hu.step.block gl HB2.out.lt HN.out)
      obtain ⟨c0, c1, f0, f1⟩ := cells2 hb3
      clear hu hU hb3 hc0
      rcases hr01 with rfl | rfl
      · go_wp2
        refine ⟨c0, wpPF_nil ?_⟩
        simp only [pickOps, lk]
        repeat (go_big_quiet_want; refine quiet_plain rfl ?_; go_big_quiet_op; go_big_quiet_on)
        refine wpQuiet_nil ?_
        go_wp2
        go_ret
        exact ⟨rfl, ld_count HU.out _ (by go_num)⟩
      · go_wp2
        refine ⟨c0, wpPF_nil ?_⟩
        simp only [pickOps, lk]
        repeat (go_big_quiet_want; refine quiet_plain rfl ?_; go_big_quiet_op; go_big_quiet_on)
        refine wpQuiet_nil ?_
        go_wp2
        go_ret
        exact ⟨rfl, HU.out⟩

set_option maxHeartbeats 400000 in
theorem wal_force (gl gd cnt : Nat) (st : DSt) (S : Nat → Prop) (w : World) (h : Sep [IsL gl gd cnt, IsD gd st] S w) :
    Calls Try.prog 35 #[.pointer (some ⟨gl, 0, none⟩)] w fun e w' => e = .returned (.int .i64 (dSync st).1) ∧ Upd S (Sep [IsL gl gd cnt, IsD gd (dSync st).2]) w w' := by
  obtain ⟨hb, S2, hd, hsub, hn, hgl, hk⟩ := ld_parts h
  obtain ⟨c0, c1, f0, f1⟩ := cells2 hb
  have HD := Lib.hid hd
  have HK := Lib.hid hk
  clear hb hd hk h hsub hgl hn
  go_enter Try.func35, Try.ntmps35
  go_wp2_with fail
  refine (d_sync gd st S2 _ HD.out).mono ?_
  rintro e w1 ⟨rfl, hu⟩
  have HU := Lib.hid (HK.out _ _ hu)
  clear hu
  go_wp2
  go_ret
  exact ⟨rfl, HU.out⟩
set_option maxHeartbeats 400000 in
theorem wal_room (gl gd cnt : Nat) (st : DSt) (S : Nat → Prop) (w : World) (hwf : st.wf) (h : Sep [IsL gl gd cnt, IsD gd st] S w) :
    Calls Try.prog 38 #[.pointer (some ⟨gl, 0, none⟩)] w fun e w' => e = .returned (.int .i64 ((st.size : Int) - (st.all.length : Int))) ∧ Upd S (Sep [IsL gl gd cnt, IsD gd st]) w w' := by
  obtain ⟨hb, S2, hd, hsub, hn, hgl, hk⟩ := ld_parts h
  obtain ⟨c0, c1, f0, f1⟩ := cells2 hb
  have HD := Lib.hid hd
  have HK := Lib.hid hk
  clear hb hd hk h hsub hgl hn
  go_enter Try.func38, Try.ntmps38
  go_wp2_with fail
  refine (d_left gd st S2 _ hwf HD.out).mono ?_
  rintro e w1 ⟨rfl, hu⟩
  have HU := Lib.hid (HK.out _ _ hu)
  clear hu
  go_wp2
  go_ret
  exact ⟨rfl, HU.out⟩
set_option maxHeartbeats 400000 in
theorem wal_len (gl gd cnt : Nat) (st : DSt) (S : Nat → Prop) (w : World) (h : Sep [IsL gl gd cnt, IsD gd st] S w) :
    Calls Try.prog 37 #[.pointer (some ⟨gl, 0, none⟩)] w fun e w' => e = .returned (.int .i64 (cnt : Int)) ∧ w = w' := by
  obtain ⟨hb, S2, hd, hsub, hn, hgl, hk⟩ := ld_parts h
  obtain ⟨c0, c1, f0, f1⟩ := cells2 hb
  clear hb hd hk h hsub hgl hn
  go_enter Try.func37, Try.ntmps37
  go_wp2
  go_ret
  exact ⟨rfl, rfl⟩

end Go.Proofs.Ythdhcllljmkamaa
