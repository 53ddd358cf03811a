/- The walks of alive, does and same: both disks stay the same. -/
import Derived.Test.YthdhcllljmkamaaDiskGreat
import Derived.Test.YthdhcllljmkamaaReg
namespace Go.Proofs.Ythdhcllljmkamaa
open Go.RowKit
set_option linter.unusedVariables false

theorem quiet_left {P : Program} {f : FuncId} {args : Array Value} {w : World} {n : Nat} {v : Value}
    (h : Calls P f args (w.drewN n) fun e w' => e = .returned v ∧ w.drewN n = w') : Calls P f args (w.drewN n) fun e w'' => e = .returned v ∧ ∃ m, w'' = w.drewN m :=
  h.mono fun _ _ ⟨he, hm⟩ => ⟨he, n, hm.symm⟩
theorem quiet_drawn {P : Program} {f : FuncId} {args : Array Value} {w : World} {n : Nat} {v : Value}
    (h : Calls P f args (w.drewN n) fun e w' => e = .returned v ∧ ∃ m, (w.drewN n).drewN m = w') : Calls P f args (w.drewN n) fun e w'' => e = .returned v ∧ ∃ m, w'' = w.drewN m :=
  h.mono fun _ _ ⟨he, m, hm⟩ => ⟨he, n + m, by rw [← hm, World.drewN_drewN]⟩
/-- The two disks in memory, read as plain values. -/
theorem both_open {gd gm : Nat} {st : DSt} {S : Nat → Prop} {w : World} (h : Sep [IsD gd st, IsM gm st] S w) :
    ∃ (sf ls : ByteArray) (S1 S2 : Nat → Prop), sf.data.toList = st.safe ∧ ls.data.toList = st.loose ∧ IsDr gd (sf.data.toList ++ ls.data.toList) sf.size st.size st.down st.boots S1 w ∧ IsMr gm sf ls st.size st.down st.boots S2 w := by
  obtain ⟨S1, S2, h1, ⟨T1, T2, ⟨sf, ls, e1, e2, hm⟩, _⟩, _⟩ := h
  refine ⟨sf, ls, S1, T1, e1, e2, ?_, hm⟩
  have : sf.size = st.safe.length := by rw [← e1, ba_len]
  rw [e1, e2, this]
  exact h1
set_option maxHeartbeats 400000 in
theorem disk_left_q (g : Nat) (L : List UInt8) (a sz bo : Nat) (dn : Bool) (S : Nat → Prop) (w : World) (h : IsDr g L a sz dn bo S w) (hsz : sz ≤ 262144) (hL : L.length ≤ sz) :
    Calls Try.prog 19 #[.pointer (some ⟨g, 0, none⟩)] w fun e w' => e = .returned (.int .i64 ((sz : Int) - (L.length : Int))) ∧ ∃ m, w.drewN m = w' := by
  obtain ⟨v, hb, hr, hS⟩ := h
  obtain ⟨ao, c, rfl, _⟩ := hr.read
  obtain ⟨c0, c1, c2, c3, c4, f0, f1, f2, f3, f4⟩ := cells5 hb
  clear hb hr hS
  go_enter Try.func19, Try.ntmps19
  go_wp2_with fail
  go_quiet (fail)
  go_wp2
  go_ret
  exact ⟨rfl, _, rfl⟩

theorem calls_drewN {S : Nat → Prop} {A : Asr} {w : World} (hA : LocalA A) (h : A S w) (n : Nat) : A S (w.drewN n) := hA.keep _ _ _ h (fun k _ => rfl)
set_option maxHeartbeats 1000000 in
theorem disk_same_up (gd gm : Nat) (sf ls : ByteArray) (sz bo : Nat) (S1 S2 : Nat → Prop) (w : World) (hsz : sz ≤ 262144) (hL : sf.size + ls.size ≤ sz) (h1 : IsDr gd (sf.data.toList ++ ls.data.toList) sf.size sz false bo S1 w) (h2 : IsMr gm sf ls sz false bo S2 w) :
    Calls Try.prog 25 #[.pointer (some ⟨gd, 0, none⟩), .pointer (some ⟨gm, 0, none⟩)] w fun e w' => e = .returned (.bool true) ∧ ∃ n, w.drewN n = w' := by
  obtain ⟨hb, hS⟩ := h2
  obtain ⟨c0, c1, c2, c3, c4, f0, f1, f2, f3, f4⟩ := cells5 hb
  have k1 : ¬ 9223372036854775807 < sf.size + ls.size := by omega
  have HB := Lib.hid hb
  have H1 := Lib.hid h1
  clear hb hS h1
  go_enter Try.func25, Try.ntmps25
  go_wp2_with fail
  go_quiet (fail)
  go_wp2_with fail
  obtain ⟨w1, hw1⟩ : ∃ w1, w.drewN nq = w1 := ⟨_, rfl⟩
  have hb1 : Blk w1 gm 38 (mCells sf ls sz false bo) := hw1 ▸ HB.out
  have h1 : IsDr gd (sf.data.toList ++ ls.data.toList) sf.size sz false bo S1 w1 := hw1 ▸ calls_drewN (IsDr.local ..) H1.out nq
  rw [hw1]
  have HW1 := Lib.hid hw1
  clear hw1 H1 HB c0 c1 c2 c3 c4 f0 f1 f2 f3 f4
  obtain ⟨c0, c1, c2, c3, c4, f0, f1, f2, f3, f4⟩ := cells5 hb1
  have hl : (sf.data.toList ++ ls.data.toList).length = sf.size + ls.size := by simp
  have hread : ∀ n, Calls Try.prog 18 #[.pointer (some ⟨gd, 0, none⟩)] (w1.drewN n) fun e w' => e = .returned (.string (sf ++ ls)) ∧ w1.drewN n = w' := fun n => by
    have := disk_read_up gd _ _ _ _ S1 _ (calls_drewN (IsDr.local ..) h1 n)
    have e : (⟨(sf.data.toList ++ ls.data.toList).toArray⟩ : ByteArray) = sf ++ ls := ba_ext (by rw [ba_append])
    rw [e] at this
    exact this
  have hleft : ∀ n, Calls Try.prog 19 #[.pointer (some ⟨gd, 0, none⟩)] (w1.drewN n) fun e w' => e = .returned (.int .i64 ((sz : Int) - ((sf.size : Int) + (ls.size : Int)))) ∧ ∃ m, (w1.drewN n).drewN m = w' := fun n => by
    have := disk_left_q gd _ _ _ _ _ S1 _ (calls_drewN (IsDr.local ..) h1 n) hsz (by rw [hl]; exact hL)
    rw [hl, Int.natCast_add] at this
    exact this
  have hsafe : ∀ n, Calls Try.prog 24 #[.pointer (some ⟨gd, 0, none⟩)] (w1.drewN n) fun e w' => e = .returned (.int .i64 (sf.size : Int)) ∧ w1.drewN n = w' := fun n => disk_safe gd _ _ _ _ _ S1 _ (calls_drewN (IsDr.local ..) h1 n)
  have hdown : ∀ n, Calls Try.prog 23 #[.pointer (some ⟨gd, 0, none⟩)] (w1.drewN n) fun e w' => e = .returned (.bool false) ∧ w1.drewN n = w' := fun n => disk_down gd _ _ _ _ _ S1 _ (calls_drewN (IsDr.local ..) h1 n)
  have hboots : ∀ n, Calls Try.prog 28 #[.pointer (some ⟨gd, 0, none⟩)] (w1.drewN n) fun e w' => e = .returned (.int .i64 (bo : Int)) ∧ w1.drewN n = w' := fun n => disk_boots gd _ _ _ _ _ S1 _ (calls_drewN (IsDr.local ..) h1 n)
  have HR := Lib.hid hread
  have HLf := Lib.hid hleft
  have HSf := Lib.hid hsafe
  have HDn := Lib.hid hdown
  have HBo := Lib.hid hboots
  clear hread hleft hsafe hdown hboots hl h1 hb1
  have k2 : IntKind.i64.wrap ((sz : Int) - ((sf.size : Int) + (ls.size : Int))) = (sz : Int) - ((sf.size : Int) + (ls.size : Int)) := IntWalk.i64_in _ (by omega)
  go_quiet ((first | (go_at_call 18; exact quiet_left (HR.out _)) | (go_at_call 23; exact quiet_left (HDn.out _)) | (go_at_call 24; exact quiet_left (HSf.out _)) | (go_at_call 28; exact quiet_left (HBo.out _)) | (go_at_call 19; exact quiet_drawn (HLf.out _))))
  go_wp2_with fail
  go_ret
  refine ⟨rfl, ?_⟩
  rw [← HW1.out, World.drewN_drewN]
  exact ⟨_, rfl⟩
set_option maxHeartbeats 1000000 in
theorem disk_same_down (gd gm : Nat) (sf ls : ByteArray) (sz bo : Nat) (S1 S2 : Nat → Prop) (w : World) (hsz : sz ≤ 262144) (hL : sf.size + ls.size ≤ sz) (h1 : IsDr gd (sf.data.toList ++ ls.data.toList) sf.size sz true bo S1 w) (h2 : IsMr gm sf ls sz true bo S2 w) :
    Calls Try.prog 25 #[.pointer (some ⟨gd, 0, none⟩), .pointer (some ⟨gm, 0, none⟩)] w fun e w' => e = .returned (.bool true) ∧ ∃ n, w.drewN n = w' := by
  obtain ⟨hb, hS⟩ := h2
  obtain ⟨c0, c1, c2, c3, c4, f0, f1, f2, f3, f4⟩ := cells5 hb
  have k1 : ¬ 9223372036854775807 < sf.size + ls.size := by omega
  have HB := Lib.hid hb
  have H1 := Lib.hid h1
  clear hb hS h1
  go_enter Try.func25, Try.ntmps25
  go_wp2_with fail
  go_quiet (fail)
  go_wp2_with fail
  obtain ⟨w1, hw1⟩ : ∃ w1, w.drewN nq = w1 := ⟨_, rfl⟩
  have hb1 : Blk w1 gm 38 (mCells sf ls sz true bo) := hw1 ▸ HB.out
  have h1 : IsDr gd (sf.data.toList ++ ls.data.toList) sf.size sz true bo S1 w1 := hw1 ▸ calls_drewN (IsDr.local ..) H1.out nq
  rw [hw1]
  have HW1 := Lib.hid hw1
  clear hw1 H1 HB c0 c1 c2 c3 c4 f0 f1 f2 f3 f4
  obtain ⟨c0, c1, c2, c3, c4, f0, f1, f2, f3, f4⟩ := cells5 hb1
  have hl : (sf.data.toList ++ ls.data.toList).length = sf.size + ls.size := by simp
  have hread : ∀ n, Calls Try.prog 18 #[.pointer (some ⟨gd, 0, none⟩)] (w1.drewN n) fun e w' => e = .returned (.string ⟨#[]⟩) ∧ w1.drewN n = w' := fun n => by
    have := disk_read_down gd _ _ _ _ S1 _ (calls_drewN (IsDr.local ..) h1 n)
    skip
    skip
    exact this
  have hleft : ∀ n, Calls Try.prog 19 #[.pointer (some ⟨gd, 0, none⟩)] (w1.drewN n) fun e w' => e = .returned (.int .i64 ((sz : Int) - ((sf.size : Int) + (ls.size : Int)))) ∧ ∃ m, (w1.drewN n).drewN m = w' := fun n => by
    have := disk_left_q gd _ _ _ _ _ S1 _ (calls_drewN (IsDr.local ..) h1 n) hsz (by rw [hl]; exact hL)
    rw [hl, Int.natCast_add] at this
    exact this
  have hsafe : ∀ n, Calls Try.prog 24 #[.pointer (some ⟨gd, 0, none⟩)] (w1.drewN n) fun e w' => e = .returned (.int .i64 (sf.size : Int)) ∧ w1.drewN n = w' := fun n => disk_safe gd _ _ _ _ _ S1 _ (calls_drewN (IsDr.local ..) h1 n)
  have hdown : ∀ n, Calls Try.prog 23 #[.pointer (some ⟨gd, 0, none⟩)] (w1.drewN n) fun e w' => e = .returned (.bool true) ∧ w1.drewN n = w' := fun n => disk_down gd _ _ _ _ _ S1 _ (calls_drewN (IsDr.local ..) h1 n)
  have hboots : ∀ n, Calls Try.prog 28 #[.pointer (some ⟨gd, 0, none⟩)] (w1.drewN n) fun e w' => e = .returned (.int .i64 (bo : Int)) ∧ w1.drewN n = w' := fun n => disk_boots gd _ _ _ _ _ S1 _ (calls_drewN (IsDr.local ..) h1 n)
  have HR := Lib.hid hread
  have HLf := Lib.hid hleft
  have HSf := Lib.hid hsafe
  have HDn := Lib.hid hdown
  have HBo := Lib.hid hboots
  clear hread hleft hsafe hdown hboots hl h1 hb1
  have k2 : IntKind.i64.wrap ((sz : Int) - ((sf.size : Int) + (ls.size : Int))) = (sz : Int) - ((sf.size : Int) + (ls.size : Int)) := IntWalk.i64_in _ (by omega)
  go_quiet ((first | (go_at_call 18; exact quiet_left (HR.out _)) | (go_at_call 23; exact quiet_left (HDn.out _)) | (go_at_call 24; exact quiet_left (HSf.out _)) | (go_at_call 28; exact quiet_left (HBo.out _)) | (go_at_call 19; exact quiet_drawn (HLf.out _))))
  go_wp2_with fail
  go_ret
  refine ⟨rfl, ?_⟩
  rw [← HW1.out, World.drewN_drewN]
  exact ⟨_, rfl⟩

theorem local2 (gd gm : Nat) (st st' : DSt) : ∀ B ∈ [IsD gd st, IsM gm st'], LocalA B := by
  intro B hB
  simp only [List.mem_cons, List.not_mem_nil, or_false] at hB
  rcases hB with rfl | rfl
  · exact IsD.local gd st
  · exact IsM.local gm st'
theorem local1 (gm : Nat) (st : DSt) : ∀ B ∈ [IsM gm st], LocalA B := by
  intro B hB
  simp only [List.mem_cons, List.not_mem_nil, or_false] at hB
  subst hB
  exact IsM.local gm st
theorem local1d (gd : Nat) (st : DSt) : ∀ B ∈ [IsD gd st], LocalA B := by
  intro B hB
  simp only [List.mem_cons, List.not_mem_nil, or_false] at hB
  subst hB
  exact IsD.local gd st
theorem Upd.back {S : Nat → Prop} {A : Asr} {w w1 w' : World} (hf : Fr w w1) (h : Upd S A w1 w') : Upd S A w w' := by
  obtain ⟨S', h1, h2, h3⟩ := h
  exact ⟨S', h1, (Step.of_fr hf).trans h2 (fun i hi => .inl hi), fun k hk => (h3 k hk).elim .inl (fun h => .inr (Nat.le_trans hf.size h))⟩
/-- Two calls, one on each disk; a block that is none of theirs stays. -/
theorem two_calls {gd gm : Nat} {st : DSt} {S : Nat → Prop} {w1 : World} {B : Nat} (hB : B < w1.heap.size) (hBS : ¬ S B) (h : Sep [IsD gd st, IsM gm st] S w1) :
    ∃ S1, IsD gd st S1 w1 ∧ ∀ st' w2, Upd S1 (IsD gd st') w1 w2 → w2.heap[B]? = w1.heap[B]? ∧ B < w2.heap.size ∧ (∃ S2, IsM gm st S2 w2 ∧ ∀ w3, Upd S2 (IsM gm st') w2 w3 → Upd S (Sep [IsD gd st', IsM gm st']) w1 w3 ∧ w3.heap[B]? = w1.heap[B]?) := by
  obtain ⟨S1, h1, hs1, k1⟩ := Upd.callAt (L1 := []) (L2 := [IsM gm st]) (local1 gm st) (Upd.refl h)
  have hb1 : ¬ S1 B := fun hk => (hs1 B hk).elim hBS (fun h => by omega)
  refine ⟨S1, h1, fun st' w2 hu => ?_⟩
  have hst := hu.step
  have hU := k1 _ _ hu
  obtain ⟨S2, h2, hs2, k2⟩ := Upd.callAt (L1 := [IsD gd st']) (L2 := []) (local1d gd st') hU
  have hb2 : ¬ S2 B := fun hk => (hs2 B hk).elim hBS (fun h => by omega)
  have hB2 : B < w2.heap.size := Nat.lt_of_lt_of_le hB hst.size
  refine ⟨hst.block B hB hb1, hB2, S2, h2, fun w3 hu3 => ⟨k2 _ _ hu3, ?_⟩⟩
  exact (hu3.step.block B hB2 hb2).trans (hst.block B hB hb1)

set_option maxHeartbeats 1000000 in
theorem disk_does_append (gd gm : Nat) (st : DSt) (c : DCall) (S : Nat → Prop) (w : World) (hwf : st.wf) (hs : c.s.size ≤ 4096) (h : Sep [IsD gd st, IsM gm st] S w) (hk : c.kind = 0) :
    Calls Try.prog 16 #[.pointer (some ⟨gd, 0, none⟩), .pointer (some ⟨gm, 0, none⟩), .agg #[.int .i64 c.kind, .string c.s, .int .i64 c.n, .int .u8 (c.turn.toNat : Int)]] w
      fun e w' => e = .returned (.bool true) ∧ Upd S (Sep [IsD gd (dPlay st c), IsM gm (dPlay st c)]) w w' := by
  have hp : dPlay st c = (dAppend st c.s.data.toList).2 := by unfold dPlay; rw [if_pos hk]
  rw [hk, hp]
  have HP := Lib.hid hp
  clear hp hk
  have hlt := fun k hk => (Sep.local _ (local2 gd gm st st)).lt S w k h hk
  obtain ⟨s, hcs⟩ : ∃ s, c.s = s := ⟨_, rfl⟩
  obtain ⟨n, hcn⟩ : ∃ n, c.n = n := ⟨_, rfl⟩
  obtain ⟨x, hcx⟩ : ∃ x, c.turn = x := ⟨_, rfl⟩
  rw [hcs, hcn, hcx]
  rw [hcs] at hs
  clear hcs hcn hcx HP
  have hA : ∀ o, Sep [IsD gd st, IsM gm st] S (w.alloc o).drew := fun o => (Sep.local _ (local2 gd gm st st)).keep _ _ _ h (fun k hk => Lib.alloc_old w o k (hlt k hk))
  have HA := Lib.hid hA
  have HLT := Lib.hid hlt
  clear h hA hlt
  go_enter Try.func16, Try.ntmps16
  go_wp2_with fail
  refine wp_region_pf [([0, 1, 2, 4, 5, 6], 3), ([], 7)] [8, 9] (fun W => W.cell? ⟨w.heap.size, 1, none⟩ = some (.string s)) (by kernel_rfl) (by kernel_rfl) ?_ (by simp) ?_
  · intro c a d v w h
    cases d <;> exact h
  refine wpPF_cons ?_
  simp only [pickOps, lk]
  repeat (go_big_quiet_want; refine quiet_plain rfl ?_; go_big_quiet_op; go_big_quiet_on)
  go_big_quiet_want
  refine quiet_read (.string s) (fun W hW => ?_) ?_
  · have hW' : W.cell? ⟨w.heap.size, 1, none⟩ = some (.string s) := hW
    clear hW
    go_simp
  go_simp
  go_big_quiet_on
  repeat (go_big_quiet_want; refine quiet_plain rfl ?_; go_big_quiet_op; go_big_quiet_on)
  go_big_quiet_want
  refine quiet_read (.string s) (fun W hW => ?_) ?_
  · have hW' : W.cell? ⟨w.heap.size, 1, none⟩ = some (.string s) := hW
    clear hW
    go_simp
  go_simp
  go_big_quiet_on
  refine wpQuiet_nil (npOp_want rfl (fun K hK => ?_))
  go_wp2_with fail
  obtain ⟨S1, h1, k1⟩ := two_calls (B := w.heap.size) (by simp) (fun hk => absurd (HLT.out _ hk) (Nat.lt_irrefl _)) (HA.out _)
  have K1 := Lib.hid k1
  clear k1
  refine (d_append gd st s S1 _ hwf (by omega) h1).mono ?_
  rintro e w2 ⟨rfl, hu⟩
  obtain ⟨hbl, hB2, S2, h2, k2⟩ := K1.out _ _ hu
  have K2 := Lib.hid k2
  clear k2 K1 h1 hu
  go_wp2
  refine ⟨by rw [World.cell?_of_block (w := (w.alloc _).drew) hbl]; simp, wpPF_cons ?_⟩
  simp only [pickOps, lk]
  refine wpQuiet_nil (npOp_want rfl (fun K hK => ?_))
  go_wp2_with fail
  refine (m_append gm st s S2 _ hwf (by omega) h2).mono ?_
  rintro e w3 ⟨rfl, hu⟩
  obtain ⟨hU, hbl3⟩ := K2.out _ hu
  have HU := Lib.hid hU
  clear hU K2 h2 hu
  go_wp2
  refine ⟨by rw [World.cell?_of_block (w := (w.alloc _).drew) hbl3]; simp, wpPF_nil ?_⟩
  simp only [pickOps, lk]
  repeat (go_big_quiet_want; refine quiet_plain rfl ?_; go_big_quiet_op; go_big_quiet_on)
  refine wpQuiet_nil ?_
  go_wp2
  go_ret
  exact ⟨rfl, HU.out.back (((Fr.refl w).alloc _).drew)⟩

set_option maxHeartbeats 1000000 in
theorem disk_does_trim (gd gm : Nat) (st : DSt) (c : DCall) (S : Nat → Prop) (w : World) (hwf : st.wf) (hs : c.s.size ≤ 4096) (h : Sep [IsD gd st, IsM gm st] S w) (hk : c.kind = 2) :
    Calls Try.prog 16 #[.pointer (some ⟨gd, 0, none⟩), .pointer (some ⟨gm, 0, none⟩), .agg #[.int .i64 c.kind, .string c.s, .int .i64 c.n, .int .u8 (c.turn.toNat : Int)]] w
      fun e w' => e = .returned (.bool true) ∧ Upd S (Sep [IsD gd (dPlay st c), IsM gm (dPlay st c)]) w w' := by
  have hp : dPlay st c = (dTrim st c.n).2 := by unfold dPlay; rw [if_neg (by omega), if_neg (by omega), if_pos hk]
  rw [hk, hp]
  have HP := Lib.hid hp
  clear hp hk
  have hlt := fun k hk => (Sep.local _ (local2 gd gm st st)).lt S w k h hk
  obtain ⟨s, hcs⟩ : ∃ s, c.s = s := ⟨_, rfl⟩
  obtain ⟨n, hcn⟩ : ∃ n, c.n = n := ⟨_, rfl⟩
  obtain ⟨x, hcx⟩ : ∃ x, c.turn = x := ⟨_, rfl⟩
  rw [hcs, hcn, hcx]
  rw [hcs] at hs
  clear hcs hcn hcx HP
  have hA : ∀ o, Sep [IsD gd st, IsM gm st] S (w.alloc o).drew := fun o => (Sep.local _ (local2 gd gm st st)).keep _ _ _ h (fun k hk => Lib.alloc_old w o k (hlt k hk))
  have HA := Lib.hid hA
  have HLT := Lib.hid hlt
  clear h hA hlt
  go_enter Try.func16, Try.ntmps16
  go_wp2_with fail
  refine wp_region_pf [([0, 1, 2, 4, 5, 6], 3), ([], 7)] [8, 9] (fun W => W.cell? ⟨w.heap.size, 2, none⟩ = some (.int .i64 n)) (by kernel_rfl) (by kernel_rfl) ?_ (by simp) ?_
  · intro c a d v w h
    cases d <;> exact h
  refine wpPF_cons ?_
  simp only [pickOps, lk]
  repeat (go_big_quiet_want; refine quiet_plain rfl ?_; go_big_quiet_op; go_big_quiet_on)
  go_big_quiet_want
  refine quiet_read (.int .i64 n) (fun W hW => ?_) ?_
  · have hW' : W.cell? ⟨w.heap.size, 2, none⟩ = some (.int .i64 n) := hW
    clear hW
    go_simp
  go_simp
  go_big_quiet_on
  repeat (go_big_quiet_want; refine quiet_plain rfl ?_; go_big_quiet_op; go_big_quiet_on)
  go_big_quiet_want
  refine quiet_read (.int .i64 n) (fun W hW => ?_) ?_
  · have hW' : W.cell? ⟨w.heap.size, 2, none⟩ = some (.int .i64 n) := hW
    clear hW
    go_simp
  go_simp
  go_big_quiet_on
  refine wpQuiet_nil (npOp_want rfl (fun K hK => ?_))
  go_wp2_with fail
  obtain ⟨S1, h1, k1⟩ := two_calls (B := w.heap.size) (by simp) (fun hk => absurd (HLT.out _ hk) (Nat.lt_irrefl _)) (HA.out _)
  have K1 := Lib.hid k1
  clear k1
  refine (d_trim gd st n S1 _ hwf h1).mono ?_
  rintro e w2 ⟨rfl, hu⟩
  obtain ⟨hbl, hB2, S2, h2, k2⟩ := K1.out _ _ hu
  have K2 := Lib.hid k2
  clear k2 K1 h1 hu
  go_wp2
  refine ⟨by rw [World.cell?_of_block (w := (w.alloc _).drew) hbl]; simp, wpPF_cons ?_⟩
  simp only [pickOps, lk]
  refine wpQuiet_nil (npOp_want rfl (fun K hK => ?_))
  go_wp2_with fail
  refine (m_trim gm st n S2 _ hwf h2).mono ?_
  rintro e w3 ⟨rfl, hu⟩
  obtain ⟨hU, hbl3⟩ := K2.out _ hu
  have HU := Lib.hid hU
  clear hU K2 h2 hu
  go_wp2
  refine ⟨by rw [World.cell?_of_block (w := (w.alloc _).drew) hbl3]; simp, wpPF_nil ?_⟩
  simp only [pickOps, lk]
  repeat (go_big_quiet_want; refine quiet_plain rfl ?_; go_big_quiet_op; go_big_quiet_on)
  refine wpQuiet_nil ?_
  go_wp2
  go_ret
  exact ⟨rfl, HU.out.back (((Fr.refl w).alloc _).drew)⟩

set_option maxHeartbeats 1000000 in
theorem disk_does_sync (gd gm : Nat) (st : DSt) (c : DCall) (S : Nat → Prop) (w : World) (hwf : st.wf) (hbo : st.boots ≤ 1000000) (hs : c.s.size ≤ 4096) (h : Sep [IsD gd st, IsM gm st] S w) (hk : c.kind = 1) :
    Calls Try.prog 16 #[.pointer (some ⟨gd, 0, none⟩), .pointer (some ⟨gm, 0, none⟩), .agg #[.int .i64 c.kind, .string c.s, .int .i64 c.n, .int .u8 (c.turn.toNat : Int)]] w
      fun e w' => e = .returned (.bool true) ∧ Upd S (Sep [IsD gd (dPlay st c), IsM gm (dPlay st c)]) w w' := by
  have hp : dPlay st c = (dSync st).2 := by unfold dPlay; rw [if_neg (by omega), if_pos hk]
  rw [hk, hp]
  clear hp hk
  have hlt := fun k hk => (Sep.local _ (local2 gd gm st st)).lt S w k h hk
  obtain ⟨s, hcs⟩ : ∃ s, c.s = s := ⟨_, rfl⟩
  obtain ⟨n, hcn⟩ : ∃ n, c.n = n := ⟨_, rfl⟩
  obtain ⟨x, hcx⟩ : ∃ x, c.turn = x := ⟨_, rfl⟩
  rw [hcs, hcn, hcx]
  clear hs hcs hcn hcx
  have hA : ∀ o, Sep [IsD gd st, IsM gm st] S (w.alloc o) := fun o => (Sep.local _ (local2 gd gm st st)).keep _ _ _ h (fun k hk => Lib.alloc_old w o k (hlt k hk))
  have HA := Lib.hid hA
  have HLT := Lib.hid hlt
  clear h hA hlt
  go_enter Try.func16, Try.ntmps16
  go_wp2_with fail
  obtain ⟨S1, h1, k1⟩ := two_calls (B := w.heap.size) (by simp) (fun hk => absurd (HLT.out _ hk) (Nat.lt_irrefl _)) (HA.out _)
  have K1 := Lib.hid k1
  clear k1
  refine (d_sync gd st S1 _ h1).mono ?_
  rintro e w2 ⟨rfl, hu⟩
  obtain ⟨hbl, hB2, S2, h2, k2⟩ := K1.out _ _ hu
  have x2 : w2.cell? ⟨w.heap.size, 2, none⟩ = some (.int .i64 n) := by rw [World.cell?_of_block (w := w.alloc _) hbl]; simp
  have x3 : w2.cell? ⟨w.heap.size, 3, none⟩ = some (.int .u8 (x.toNat : Int)) := by rw [World.cell?_of_block (w := w.alloc _) hbl]; simp
  have K2 := Lib.hid k2
  clear k2 K1 h1 hu hbl
  go_wp2_with fail
  refine (m_sync gm st S2 _ hwf h2).mono ?_
  rintro e w3 ⟨rfl, hu⟩
  obtain ⟨hU, hbl3⟩ := K2.out _ hu
  have HU := Lib.hid hU
  clear hU K2 h2 hu hbl3
  go_wp2
  go_ret
  exact ⟨rfl, HU.out.back ((Fr.refl w).alloc _)⟩
set_option maxHeartbeats 1000000 in
theorem disk_does_off (gd gm : Nat) (st : DSt) (c : DCall) (S : Nat → Prop) (w : World) (hwf : st.wf) (hbo : st.boots ≤ 1000000) (hs : c.s.size ≤ 4096) (h : Sep [IsD gd st, IsM gm st] S w) (hk : c.kind = 3) :
    Calls Try.prog 16 #[.pointer (some ⟨gd, 0, none⟩), .pointer (some ⟨gm, 0, none⟩), .agg #[.int .i64 c.kind, .string c.s, .int .i64 c.n, .int .u8 (c.turn.toNat : Int)]] w
      fun e w' => e = .returned (.bool true) ∧ Upd S (Sep [IsD gd (dPlay st c), IsM gm (dPlay st c)]) w w' := by
  have hp : dPlay st c = dOff st c.n c.turn := by unfold dPlay; rw [if_neg (by omega), if_neg (by omega), if_neg (by omega), if_pos hk]
  rw [hk, hp]
  clear hp hk
  have hlt := fun k hk => (Sep.local _ (local2 gd gm st st)).lt S w k h hk
  obtain ⟨s, hcs⟩ : ∃ s, c.s = s := ⟨_, rfl⟩
  obtain ⟨n, hcn⟩ : ∃ n, c.n = n := ⟨_, rfl⟩
  obtain ⟨x, hcx⟩ : ∃ x, c.turn = x := ⟨_, rfl⟩
  rw [hcs, hcn, hcx]
  clear hs hcs hcn hcx
  have hA : ∀ o, Sep [IsD gd st, IsM gm st] S (w.alloc o) := fun o => (Sep.local _ (local2 gd gm st st)).keep _ _ _ h (fun k hk => Lib.alloc_old w o k (hlt k hk))
  have HA := Lib.hid hA
  have HLT := Lib.hid hlt
  clear h hA hlt
  go_enter Try.func16, Try.ntmps16
  go_wp2_with fail
  obtain ⟨S1, h1, k1⟩ := two_calls (B := w.heap.size) (by simp) (fun hk => absurd (HLT.out _ hk) (Nat.lt_irrefl _)) (HA.out _)
  have K1 := Lib.hid k1
  clear k1
  refine (d_off gd st n x S1 _ hwf h1).mono ?_
  rintro e w2 ⟨rfl, hu⟩
  obtain ⟨hbl, hB2, S2, h2, k2⟩ := K1.out _ _ hu
  have x2 : w2.cell? ⟨w.heap.size, 2, none⟩ = some (.int .i64 n) := by rw [World.cell?_of_block (w := w.alloc _) hbl]; simp
  have x3 : w2.cell? ⟨w.heap.size, 3, none⟩ = some (.int .u8 (x.toNat : Int)) := by rw [World.cell?_of_block (w := w.alloc _) hbl]; simp
  have K2 := Lib.hid k2
  clear k2 K1 h1 hu hbl
  go_wp2_with fail
  refine (m_off gm st n x S2 _ hwf h2).mono ?_
  rintro e w3 ⟨rfl, hu⟩
  obtain ⟨hU, hbl3⟩ := K2.out _ hu
  have HU := Lib.hid hU
  clear hU K2 h2 hu hbl3
  go_wp2
  go_ret
  exact ⟨rfl, HU.out.back ((Fr.refl w).alloc _)⟩
set_option maxHeartbeats 1000000 in
theorem disk_does_on (gd gm : Nat) (st : DSt) (c : DCall) (S : Nat → Prop) (w : World) (hwf : st.wf) (hbo : st.boots ≤ 1000000) (hs : c.s.size ≤ 4096) (h : Sep [IsD gd st, IsM gm st] S w) (hk : c.kind = 4) :
    Calls Try.prog 16 #[.pointer (some ⟨gd, 0, none⟩), .pointer (some ⟨gm, 0, none⟩), .agg #[.int .i64 c.kind, .string c.s, .int .i64 c.n, .int .u8 (c.turn.toNat : Int)]] w
      fun e w' => e = .returned (.bool true) ∧ Upd S (Sep [IsD gd (dPlay st c), IsM gm (dPlay st c)]) w w' := by
  have hp : dPlay st c = dOn st := by unfold dPlay; rw [if_neg (by omega), if_neg (by omega), if_neg (by omega), if_neg (by omega), if_pos hk]
  rw [hk, hp]
  clear hp hk
  have hlt := fun k hk => (Sep.local _ (local2 gd gm st st)).lt S w k h hk
  obtain ⟨s, hcs⟩ : ∃ s, c.s = s := ⟨_, rfl⟩
  obtain ⟨n, hcn⟩ : ∃ n, c.n = n := ⟨_, rfl⟩
  obtain ⟨x, hcx⟩ : ∃ x, c.turn = x := ⟨_, rfl⟩
  rw [hcs, hcn, hcx]
  clear hs hcs hcn hcx
  have hA : ∀ o, Sep [IsD gd st, IsM gm st] S (w.alloc o) := fun o => (Sep.local _ (local2 gd gm st st)).keep _ _ _ h (fun k hk => Lib.alloc_old w o k (hlt k hk))
  have HA := Lib.hid hA
  have HLT := Lib.hid hlt
  clear h hA hlt
  go_enter Try.func16, Try.ntmps16
  go_wp2_with fail
  obtain ⟨S1, h1, k1⟩ := two_calls (B := w.heap.size) (by simp) (fun hk => absurd (HLT.out _ hk) (Nat.lt_irrefl _)) (HA.out _)
  have K1 := Lib.hid k1
  clear k1
  refine (d_on gd st S1 _ hwf hbo h1).mono ?_
  rintro e w2 ⟨rfl, hu⟩
  obtain ⟨hbl, hB2, S2, h2, k2⟩ := K1.out _ _ hu
  have x2 : w2.cell? ⟨w.heap.size, 2, none⟩ = some (.int .i64 n) := by rw [World.cell?_of_block (w := w.alloc _) hbl]; simp
  have x3 : w2.cell? ⟨w.heap.size, 3, none⟩ = some (.int .u8 (x.toNat : Int)) := by rw [World.cell?_of_block (w := w.alloc _) hbl]; simp
  have K2 := Lib.hid k2
  clear k2 K1 h1 hu hbl
  go_wp2_with fail
  refine (m_on gm st S2 _ hwf hbo h2).mono ?_
  rintro e w3 ⟨rfl, hu⟩
  obtain ⟨hU, hbl3⟩ := K2.out _ hu
  have HU := Lib.hid hU
  clear hU K2 h2 hu hbl3
  go_wp2
  go_ret
  exact ⟨rfl, HU.out.back ((Fr.refl w).alloc _)⟩
set_option maxHeartbeats 1000000 in
theorem disk_does_other (gd gm : Nat) (st : DSt) (c : DCall) (S : Nat → Prop) (w : World) (h : Sep [IsD gd st, IsM gm st] S w) (hk : c.kind < 0 ∨ 4 < c.kind) :
    Calls Try.prog 16 #[.pointer (some ⟨gd, 0, none⟩), .pointer (some ⟨gm, 0, none⟩), .agg #[.int .i64 c.kind, .string c.s, .int .i64 c.n, .int .u8 (c.turn.toNat : Int)]] w
      fun e w' => e = .returned (.bool true) ∧ Upd S (Sep [IsD gd (dPlay st c), IsM gm (dPlay st c)]) w w' := by
  have hp : dPlay st c = st := by unfold dPlay; rw [if_neg (by omega), if_neg (by omega), if_neg (by omega), if_neg (by omega), if_neg (by omega)]
  rw [hp]
  clear hp
  have hlt := fun k hk => (Sep.local _ (local2 gd gm st st)).lt S w k h hk
  have hU : ∀ o, Upd S (Sep [IsD gd st, IsM gm st]) w (w.alloc o) := fun o => ⟨S, (Sep.local _ (local2 gd gm st st)).keep _ _ _ h (fun k hk => Lib.alloc_old w o k (hlt k hk)), Step.of_fr ((Fr.refl w).alloc _), fun k hk => .inl hk⟩
  have HU := Lib.hid hU
  have e0 : (c.kind == 0) = false := by rw [beq_eq_false_iff_ne]; omega
  have e1 : (c.kind == 1) = false := by rw [beq_eq_false_iff_ne]; omega
  have e2 : (c.kind == 2) = false := by rw [beq_eq_false_iff_ne]; omega
  have e3 : (c.kind == 3) = false := by rw [beq_eq_false_iff_ne]; omega
  have e4 : (c.kind == 4) = false := by rw [beq_eq_false_iff_ne]; omega
  clear h hU hlt hk
  go_enter Try.func16, Try.ntmps16
  go_wp2
  go_ret
  exact ⟨rfl, HU.out _⟩
theorem disk_does (gd gm : Nat) (st : DSt) (c : DCall) (S : Nat → Prop) (w : World) (hwf : st.wf) (hbo : st.boots ≤ 1000000) (hs : c.s.size ≤ 4096) (h : Sep [IsD gd st, IsM gm st] S w) :
    Calls Try.prog 16 #[.pointer (some ⟨gd, 0, none⟩), .pointer (some ⟨gm, 0, none⟩), .agg #[.int .i64 c.kind, .string c.s, .int .i64 c.n, .int .u8 (c.turn.toNat : Int)]] w
      fun e w' => e = .returned (.bool true) ∧ Upd S (Sep [IsD gd (dPlay st c), IsM gm (dPlay st c)]) w w' := by
  rcases (show (c.kind < 0 ∨ 4 < c.kind) ∨ c.kind = 0 ∨ c.kind = 1 ∨ c.kind = 2 ∨ c.kind = 3 ∨ c.kind = 4 by omega) with hk | hk | hk | hk | hk | hk
  · exact disk_does_other gd gm st c S w h hk
  · exact disk_does_append gd gm st c S w hwf hs h hk
  · exact disk_does_sync gd gm st c S w hwf hbo hs h hk
  · exact disk_does_trim gd gm st c S w hwf hs h hk
  · exact disk_does_off gd gm st c S w hwf hbo hs h hk
  · exact disk_does_on gd gm st c S w hwf hbo hs h hk
theorem disk_same (gd gm : Nat) (st : DSt) (S : Nat → Prop) (w : World) (hwf : st.wf) (h : Sep [IsD gd st, IsM gm st] S w) :
    Calls Try.prog 25 #[.pointer (some ⟨gd, 0, none⟩), .pointer (some ⟨gm, 0, none⟩)] w fun e w' => e = .returned (.bool true) ∧ ∃ n, w.drewN n = w' := by
  obtain ⟨sf, ls, S1, S2, e1, e2, h1, h2⟩ := both_open h
  have hl : sf.size + ls.size = st.all.length := by rw [len_all, ← e1, ← e2, ba_len, ba_len]
  obtain ⟨safe, loose, sz, dn, bo⟩ := st
  unfold DSt.wf at hwf
  cases dn with
  | false => exact disk_same_up gd gm sf ls sz bo S1 S2 w hwf.2 (by rw [hl]; exact hwf.1) h1 h2
  | true => exact disk_same_down gd gm sf ls sz bo S1 S2 w hwf.2 (by rw [hl]; exact hwf.1) h1 h2

end Go.Proofs.Ythdhcllljmkamaa
