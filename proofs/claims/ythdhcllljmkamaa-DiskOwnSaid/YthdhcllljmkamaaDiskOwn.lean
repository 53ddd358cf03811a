/- The walk of DiskOwn. -/
import Derived.Test.YthdhcllljmkamaaDiskRoom
import Derived.Lib.ConvBytes
namespace Go.Proofs.Ythdhcllljmkamaa
open Go.RowKit
set_option linter.unusedVariables false

/-- A disk and its reference as one. -/
def Pair (gd gm : Nat) (st : DSt) : Asr := Sep [IsD gd st, IsM gm st]
theorem Pair.local (gd gm : Nat) (st : DSt) : LocalA (Pair gd gm st) := Sep.local _ (local2 gd gm st st)
theorem pair_new {L : List Asr} {w0 w w2 w3 : World} {st : DSt} (hL : ∀ B ∈ L, LocalA B) (hU : Upd (fun _ => False) (Sep L) w0 w) (hf2 : Fr w w2) (hd : IsD w.heap.size st (fun k => k = w.heap.size) w2) (hf3 : Fr w2 w3) (hm : IsM w2.heap.size st (fun k => k = w2.heap.size) w3) :
    Upd (fun _ => False) (Sep (Pair w.heap.size w2.heap.size st :: L)) w0 w3 := by
  have hlt : w.heap.size < w2.heap.size := (IsD.local _ st).lt _ _ _ hd rfl
  refine Upd.new hL hU (hf2.trans hf3) (fun k => k = w.heap.size ∨ k = w2.heap.size) ?_ ?_
  · refine ⟨_, fun k => k = w2.heap.size, (IsD.local _ st).keep _ _ _ hd (fun k hk => hf3.block k ((IsD.local _ st).lt _ _ _ hd hk)), ⟨_, fun _ => False, hm, fun _ h => h, fun k h => fun h2 => h2, fun k => by simp⟩, fun k h1 h2 => by omega, fun k => Iff.rfl⟩
  · rintro k (h | h)
    · omega
    · omega
theorem pairs_local (gd gm : Nat) (st : DSt) : ∀ B ∈ [Pair gd gm st], LocalA B := by
  intro B hB
  simp only [List.mem_cons, List.not_mem_nil, or_false] at hB
  subst hB
  exact Pair.local gd gm st
theorem pairs2_local (gd gm ge gn : Nat) (st su : DSt) : ∀ B ∈ [Pair gd gm st, Pair ge gn su], LocalA B := by
  intro B hB
  simp only [List.mem_cons, List.not_mem_nil, or_false] at hB
  rcases hB with rfl | rfl
  · exact Pair.local gd gm st
  · exact Pair.local ge gn su
theorem pairs_keep {gd gm ge gn : Nat} {st su : DSt} {w wc w' : World} (hU : Upd (fun _ => False) (Sep [Pair gd gm st, Pair ge gn su]) w wc) (hf : Fr wc w') : Upd (fun _ => False) (Sep [Pair gd gm st, Pair ge gn su]) w w' := Upd.fresh (pairs2_local gd gm ge gn st su) hU hf
theorem pair_first {gd gm ge gn : Nat} {st su : DSt} {w wc : World} (hU : Upd (fun _ => False) (Sep [Pair gd gm st, Pair ge gn su]) w wc) :
    ∃ S, Pair gd gm st S wc ∧ ∀ st' w', Upd S (Pair gd gm st') wc w' → Upd (fun _ => False) (Sep [Pair gd gm st', Pair ge gn su]) w w' := by
  obtain ⟨S, h1, k1⟩ := Upd.call (pairs_local ge gn su) hU
  exact ⟨S, h1, fun st' w' h => k1 _ _ h⟩
theorem pair_second {gd gm ge gn : Nat} {st su : DSt} {w wc : World} (hU : Upd (fun _ => False) (Sep [Pair gd gm st, Pair ge gn su]) w wc) :
    ∃ S, Pair ge gn su S wc ∧ ∀ su' w', Upd S (Pair ge gn su') wc w' → Upd (fun _ => False) (Sep [Pair gd gm st, Pair ge gn su']) w w' := by
  obtain ⟨S, h1, k1⟩ := Upd.call (pairs_local gd gm st) hU.swap
  exact ⟨S, h1, fun su' w' h => (k1 _ _ h).swap⟩
theorem pair_open {gd gm : Nat} {st : DSt} {S : Nat → Prop} {w : World} (h : Pair gd gm st S w) : ∃ S1, IsD gd st S1 w := by
  obtain ⟨S1, S2, h1, _⟩ := h
  exact ⟨S1, h1⟩
theorem fr_bytes2 (w : World) (E : TypeId) (s : ByteArray) : Fr w (Lib.bytesWorld w E s) :=
  ⟨by simp only [Lib.bytesWorld, World.freeze]; rfl, by simp only [Lib.bytesWorld, World.freeze]; rfl, by simp only [Lib.bytesWorld, World.freeze]; rfl, by rw [Lib.bytesWorld_size]; omega, fun k hk => Lib.bytesWorld_at_old w E s k hk⟩

set_option maxHeartbeats 4000000 in
set_option maxRecDepth 100000 in
theorem disk_own_law (size : Int) (a : Option Addr) (cap : Nat) (cs : List DCall) (a2 : Option Addr) (cap2 : Nat) (ot : List DCall) (w : World) (hm : cs.length ≤ 140737488351232) (hr : RdRow w a (callRow cs)) (hm2 : ot.length ≤ 140737488351232) (hr2 : RdRow w a2 (callRow ot)) :
    Calls Try.prog 6 #[.int .i64 size, .slice a cs.length cap, .slice a2 ot.length cap2] w fun e w' => e = .returned (.bool true) ∧ Fr w w' := by
  have hcv := fun (w : World) (s : ByteArray) => Lib.run_convert_string_bytes (P := Try.prog) w 9 45 5 s Try.underlying9 Try.underlying45 Try.underlying5
  have hcb : ∀ (w : World) (q : ByteArray) (cap : Nat), (convert 45 9 (.slice (some ⟨w.heap.size, 0, none⟩) q.size cap)).run Try.prog (Lib.bytesWorld w 5 q) = .ok (.string q) (Lib.bytesWorld w 5 q) := by
    intro w q cap
    have := run_convert_bytes_arg (P := Try.prog) (Lib.bytesWorld w 5 q) 45 5 Try.underlying45 Try.underlying5 w.heap.size 0 q.size cap (q.data.toList.map fun c => (c.toNat : Int)) (by rw [List.length_map, ba_len]) (fun i hi => by
      rw [Nat.zero_add, Lib.bytesWorld_cell _ _ _ _ hi, List.getD_eq_getElem?_getD, List.getD_eq_getElem?_getD, List.getElem?_map, List.getElem?_eq_getElem (by rw [ba_len]; exact hi)]
      rfl) 9 Try.underlying9
    rw [strOfNums_bytes] at this
    exact this
  have HCV := Lib.hid hcv
  have HCB := Lib.hid hcb
  clear hcv hcb
  go_enter Try.func6, Try.ntmps6
  go_wp2_with fail
  refine (disk_alive _).mono ?_
  rintro e w1 ⟨rfl, hf⟩
  go_wp2_with fail
  refine (disk_great a cap cs _ hm (hr.fr hf)).mono ?_
  rintro e w2 ⟨r, rfl, hf2, hmod⟩
  have HF := Lib.hid (hf.trans hf2)
  have HM := Lib.hid hmod
  clear hf hf2 hmod
  cases r
  · go_wp2_with fail
    refine (disk_great a2 cap2 ot _ hm2 (hr2.fr HF.out)).mono ?_
    rintro e w3 ⟨r, rfl, hf2, hmod⟩
    have HF2 := Lib.hid (HF.out.trans hf2)
    have HMO := Lib.hid hmod
    clear hf2 hmod HF
    cases r
    · have h60 := (HM.out (by simp)).1
      have h61 := (HMO.out (by simp)).1
      have HM2 := Lib.hid (HM.out (by simp)).2
      have HMO2 := Lib.hid (HMO.out (by simp)).2
      clear HM HMO
      go_wp2_with fail
      refine (d_new size _).mono ?_
      rintro e w4 ⟨rfl, hf3, hd⟩
      go_wp2_with fail
      refine (m_new size _).mono ?_
      rintro e w5 ⟨rfl, hf4, hm4⟩
      have HU := Lib.hid (pair_new (L := []) (by simp) (Upd.start w3) hf3 hd hf4 hm4)
      clear hf3 hd hf4 hm4
      go_wp2_with fail
      refine (d_new size _).mono ?_
      rintro e w6 ⟨rfl, hf3, hd⟩
      go_wp2_with fail
      refine (m_new size _).mono ?_
      rintro e w7 ⟨rfl, hf4, hm4⟩
      have HU2 := Lib.hid ((pair_new (pairs_local _ _ _) HU.out hf3 hd hf4 hm4).swap.back HF2.out)
      clear hf3 hd hf4 hm4 HU
      generalize w3.heap.size = gd at HU2 ⊢
      generalize w4.heap.size = gm at HU2 ⊢
      generalize w5.heap.size = ge at HU2 ⊢
      generalize w6.heap.size = gn at HU2 ⊢
      go_wp2_with fail
      go_loopw [33] (fun i wr => ∃ k : Nat, k ≤ cs.length ∧ i = .int .i64 k ∧ Hid (Upd (fun _ => False) (Sep [Pair gd gm (dPlays (dNew size) (cs.take k)), Pair ge gn (dPlays (dNew size) (ot.take k))]) w wr)) (fun i _ => (cs.length - intOf i).toNat)
      case atStart => exact ⟨0, by omega, rfl, HU2.out⟩
      case round =>
        obtain ⟨k, hk, rfl, hU⟩ := hrel
        have hwf := dPlays_wf (dNew_wf size) (cs.take k)
        have hbo := plays_boots size cs k h60
        have hwf2 := dPlays_wf (dNew_wf size) (ot.take k)
        have hbo2 := plays_boots size ot k h61
        by_cases hlt : k < cs.length
        · have hsz := HM2.out k hlt
          have HPS := Lib.hid (dPlays_succ (dNew size) cs k hlt)
          obtain ⟨b, o, rfl, x0, x1, x2, x3⟩ := rdCalls_at (hr.fr hU.out.fr) hlt
          have HR := Lib.hid hr
          have HR2 := Lib.hid hr2
          clear hr hr2
          obtain ⟨su, hsu⟩ : ∃ su, dPlays (dNew size) (ot.take k) = su := ⟨_, rfl⟩
          have HSU : Hid (ot.length ≤ k → dPlays (dNew size) (ot.take (k + 1)) = su) := fun h => by rw [← hsu, List.take_of_length_le (by omega), List.take_of_length_le (by omega)]
          have HSU2 : Hid (∀ h : k < ot.length, dPlays (dNew size) (ot.take (k + 1)) = dPlay su ot[k]) := fun h => by rw [← hsu]; exact dPlays_succ (dNew size) ot k h
          rw [hsu] at hU hwf2 hbo2
          clear hsu
          generalize dPlays (dNew size) (cs.take k) = st at *
          obtain ⟨c, hc⟩ : ∃ c, cs[k] = c := ⟨_, rfl⟩
          rw [hc] at x0 x1 x2 x3 hsz HPS
          clear hc
          go_wp2_with fail
          have HU3 := Lib.hid (pairs_keep hU.out ((Fr.refl wr).alloc (Obj.cells #[Value.int IntKind.i64 c.kind, Value.string c.s, Value.int IntKind.i64 c.n, Value.int IntKind.u8 (c.turn.toNat : Int)] 30)))
          have hbx : (wr.alloc (Obj.cells #[Value.int IntKind.i64 c.kind, Value.string c.s, Value.int IntKind.i64 c.n, Value.int IntKind.u8 (c.turn.toNat : Int)] 30)).heap[wr.heap.size]? = some (Obj.cells #[Value.int IntKind.i64 c.kind, Value.string c.s, Value.int IntKind.i64 c.n, Value.int IntKind.u8 (c.turn.toNat : Int)] 30) := heap_alloc_new _ _
          have HBX := Lib.hid hbx
          clear hU hbx
          obtain ⟨S, h1, k1⟩ := pair_first HU3.out
          obtain ⟨S1, hd1⟩ := pair_open h1
          have H1 := Lib.hid h1
          have K1 := Lib.hid k1
          clear h1 k1
          refine (d_read gd st S1 _ hd1).mono ?_
          rintro e w8 ⟨rfl, rfl⟩
          clear hd1 S1
          generalize (⟨(if st.down = true then [] else st.all).toArray⟩ : ByteArray) = q at *
          generalize wr.alloc (Obj.cells #[Value.int IntKind.i64 c.kind, Value.string c.s, Value.int IntKind.i64 c.n, Value.int IntKind.u8 (c.turn.toNat : Int)] 30) = wb at *
          have hc1 := HCV.out wb q
          have hc2 := HCB.out wb q (grownCap wb q.size 0 5)
          have hfy := fr_bytes2 wb 5 q
          obtain ⟨wy, hwy⟩ : ∃ wy, Lib.bytesWorld wb 5 q = wy := ⟨_, rfl⟩
          rw [hwy] at hc1 hc2 hfy
          clear hwy
          have HU4 := Lib.hid (pairs_keep (K1.out st _ (Upd.refl H1.out)) hfy)
          have hby : Blk wy wr.heap.size 30 #[Value.int IntKind.i64 c.kind, Value.string c.s, Value.int IntKind.i64 c.n, Value.int IntKind.u8 (c.turn.toNat : Int)] := Blk.fr (w := wb) HBX.out hfy
          have y0 := hby.cell 0
          have y1 := hby.cell 1
          have y2 := hby.cell 2
          have y3 := hby.cell 3
          clear hfy hby K1 H1 HU3 HBX x0 x1 x2 x3
          go_wp2_with fail
          clear hc1 hc2
          obtain ⟨S, h1, k1⟩ := pair_first HU4.out
          have K1 := Lib.hid k1
          clear k1
          refine (disk_does gd gm st c S _ hwf hbo hsz h1).mono ?_
          rintro e w9 ⟨rfl, hu⟩
          have HU5 := Lib.hid (K1.out _ _ hu)
          clear K1 hu h1 HU4 y0 y1 y2 y3 hbo
          by_cases hk2 : k < ot.length
          · have hsz2 := HMO2.out k hk2
            have HEQ := Lib.hid (HSU2.out hk2)
            obtain ⟨b2, o2, rfl, z0, z1, z2, z3⟩ := rdCalls_at (HR2.out.fr HU5.out.fr) hk2
            obtain ⟨d, hd⟩ : ∃ d, ot[k] = d := ⟨_, rfl⟩
            rw [hd] at z0 z1 z2 z3 hsz2 HEQ
            clear hd
            go_wp2_with fail
            obtain ⟨S, h1, k1⟩ := pair_second HU5.out
            have K1 := Lib.hid k1
            clear k1
            refine (disk_does ge gn su d S _ hwf2 hbo2 hsz2 h1).mono ?_
            rintro e w10 ⟨rfl, hu⟩
            have HU6 := Lib.hid (K1.out _ _ hu)
            clear K1 hu h1 HU5 z0 z1 z2 z3 hbo2
            go_wp2_with fail
            obtain ⟨S, h1, k1⟩ := pair_first HU6.out
            refine (disk_same gd gm _ S _ (dPlay_wf hwf c) h1).mono ?_
            rintro e w11 ⟨rfl, n1, rfl⟩
            have HU7 := Lib.hid (pairs_keep HU6.out ((Fr.refl _).drewN n1))
            clear h1 k1 HU6
            go_wp2_with fail
            obtain ⟨S, h1, k1⟩ := pair_second HU7.out
            refine (disk_same ge gn _ S _ (dPlay_wf hwf2 d) h1).mono ?_
            rintro e w12 ⟨rfl, n2, rfl⟩
            have HU8 := Lib.hid (pairs_keep HU7.out ((Fr.refl _).drewN n2))
            clear h1 k1 HU7
            go_wp2
            go_roundw
            case rel => exact ⟨k + 1, by omega, by go_num, by have h8 := HU8.out; rw [World.drewN_drewN] at h8; rw [HPS.out, HEQ.out]; exact h8⟩
            case measure => simp [intOf]; omega
          · have hk3 : decide (k < ot.length) = false := decide_eq_false hk2
            have HEQ := Lib.hid (HSU.out (by omega))
            clear hk2
            go_wp2_with fail
            obtain ⟨S, h1, k1⟩ := pair_first HU5.out
            refine (disk_same gd gm _ S _ (dPlay_wf hwf c) h1).mono ?_
            rintro e w11 ⟨rfl, n1, rfl⟩
            have HU7 := Lib.hid (pairs_keep HU5.out ((Fr.refl _).drewN n1))
            clear h1 k1 HU5
            go_wp2_with fail
            obtain ⟨S, h1, k1⟩ := pair_second HU7.out
            refine (disk_same ge gn _ S _ hwf2 h1).mono ?_
            rintro e w12 ⟨rfl, n2, rfl⟩
            have HU8 := Lib.hid (pairs_keep HU7.out ((Fr.refl _).drewN n2))
            clear h1 k1 HU7
            go_wp2
            go_roundw
            case rel => exact ⟨k + 1, by omega, by go_num, by have h8 := HU8.out; rw [World.drewN_drewN] at h8; rw [HPS.out, HEQ.out]; exact h8⟩
            case measure => simp [intOf]; omega
        · obtain rfl : k = cs.length := by omega
          have HFF := Lib.hid hU.out.fr
          go_wp2
          go_ret
          exact ⟨rfl, HFF.out⟩
    · go_wp2
      go_ret
      exact ⟨rfl, HF2.out⟩
  · go_wp2
    go_ret
    exact ⟨rfl, HF.out⟩

theorem disk_own_row (w : World) (size : Int) (hsize : (Lit.int .i64 size).wf = true) (a : Option Addr) (cap : Nat) (cs : List DCall) (hm : cs.length ≤ 140737488351232) (hr : RdRow w a (callRow cs)) (a2 : Option Addr) (cap2 : Nat) (ot : List DCall) (hm2 : ot.length ≤ 140737488351232) (hr2 : RdRow w a2 (callRow ot)) :
    Calls Try.prog 6 #[.int .i64 size, .slice a cs.length cap, .slice a2 ot.length cap2] w fun e w' => e = .returned (.bool true) ∧ Below w.heap.size w w' := disk_own_law size a cap cs a2 cap2 ot w hm hr hm2 hr2

end Go.Proofs.Ythdhcllljmkamaa
