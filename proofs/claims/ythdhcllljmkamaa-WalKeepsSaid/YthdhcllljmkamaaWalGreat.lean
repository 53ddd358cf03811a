/- Scripts of a log that are too great; more laws on a log and its disk. -/
import Derived.Test.YthdhcllljmkamaaWalAlive
import Derived.Test.YthdhcllljmkamaaDiskGreat
namespace Go.Proofs.Ythdhcllljmkamaa
open Go.RowKit
set_option linter.unusedVariables false

def Modest6 (cs : List DCall) : Prop := cs.length ≤ 40 ∧ ∀ i (h : i < cs.length), cs[i].s.size ≤ 131072
def GreatPost6 (cs : List DCall) (w : World) (e : Ending) (w' : World) : Prop := ∃ r : Bool, e = .returned (.bool r) ∧ Fr w w' ∧ (r = false → Modest6 cs)
set_option maxHeartbeats 1000000 in
theorem wal_great (a : Option Addr) (cap : Nat) (cs : List DCall) (w : World) (hm : cs.length ≤ 3600000000000) (hr : RdRow w a (callRow cs)) :
    Calls Try.prog 36 #[.slice a cs.length cap] w (GreatPost6 cs w) := by
  go_enter Try.func36, Try.ntmps36
  go_wp2
  go_loopw [3, 8] (fun n i wr => ∃ (k q : Nat), k ≤ cs.length ∧ q ≤ 131072 * k ∧ i = .int .i64 k ∧ n = .int .i64 q ∧ Hid (Fr w wr) ∧ Hid (∀ i (h : i < cs.length), i < k → cs[i].s.size ≤ 131072)) (fun _ i _ => (cs.length - intOf i).toNat)
  case atStart => exact ⟨0, 0, by omega, by omega, rfl, rfl, Fr.refl w, fun i _ h => by omega⟩
  case round =>
    obtain ⟨k, q, hk, hq, rfl, rfl, hf, hall⟩ := hrel
    by_cases hlt : k < cs.length
    · obtain ⟨b, o, rfl, x0, x1, x2, x3⟩ := rdCalls_at (hr.fr hf.out) hlt
      have HR := Lib.hid hr
      clear hr
      by_cases hs : cs[k].s.size ≤ 131072
      · have hs2 : (cs[k].s.size : Int) ≤ 131072 := by omega
        go_wp2
        go_roundw
        case rel =>
          refine ⟨k + 1, q + cs[k].s.size, by omega, by omega, by go_num, by go_num, hf.out.alloc _, fun i h hi => ?_⟩
          by_cases e : i = k
          · subst e; exact hs
          · exact hall.out i h (by omega)
        case measure => simp [intOf]; omega
      · have hs2 : decide (131072 < (cs[k].s.size : Int)) = true := decide_eq_true (show (131072 : Int) < (cs[k].s.size : Int) by omega)
        go_wp2
        go_ret
        exact ⟨true, rfl, hf.out.alloc _, fun h => by cases h⟩
    · obtain rfl : k = cs.length := by omega
      by_cases h40 : cs.length ≤ 40
      · have h61 : (cs.length : Int) ≤ 40 := by omega
        go_wp2
        all_goals
          go_ret
          exact ⟨_, rfl, hf.out, fun h => ⟨h40, fun i h => hall.out i h h⟩⟩
      · have h61 : 40 < (cs.length : Int) := by omega
        go_wp2
        all_goals
          go_ret
          exact ⟨true, rfl, hf.out, fun h => by cases h⟩


/-- Two of several. -/
theorem sep_two {A B : Asr} {L : List Asr} {S : Nat → Prop} {w : World} (h : Sep (A :: B :: L) S w) : ∃ S', Sep [A, B] S' w := by
  obtain ⟨S1, T, h1, ⟨S2, T2, h2, h3, h4, h5⟩, hd, hu⟩ := h
  exact ⟨fun k => S1 k ∨ S2 k, S1, S2, h1, ⟨S2, fun _ => False, h2, fun _ h => h, fun _ _ h => h, fun k => by simp⟩, fun k hk hk2 => hd k hk ((h5 k).2 (.inl hk2)), fun k => Iff.rfl⟩
theorem upd_two {A B : Asr} {L : List Asr} {w wc : World} (h : Upd (fun _ => False) (Sep (A :: B :: L)) w wc) : ∃ S', Sep [A, B] S' wc := by
  obtain ⟨S, hS, _⟩ := h
  exact sep_two hS
set_option maxHeartbeats 400000 in
theorem wal_room_q (gl gd cnt : Nat) (st : DSt) (S : Nat → Prop) (w : World) (hwf : st.wf) (h : Sep [IsL gl gd cnt, IsD gd st] S w) :
    Calls Try.prog 38 #[.pointer (some ⟨gl, 0, none⟩)] w fun e w' => e = .returned (.int .i64 ((st.size : Int) - (st.all.length : Int))) ∧ ∃ m, w.drewN m = w' := by
  obtain ⟨hb, S2, hd, hsub, hn, hgl, hk⟩ := ld_parts h
  obtain ⟨c0, c1, f0, f1⟩ := cells2 hb
  have hl := disk_left_q gd _ _ _ _ _ S2 w hd hwf.2 hwf.1
  have HL := Lib.hid hl
  clear hb hd hk h hsub hgl hn hl
  go_enter Try.func38, Try.ntmps38
  go_wp2_with fail
  refine HL.out.mono ?_
  rintro e w1 ⟨rfl, m, rfl⟩
  go_wp2
  go_ret
  exact ⟨rfl, m, rfl⟩
theorem d_left_q (g : Nat) (st : DSt) (S : Nat → Prop) (w : World) (hwf : st.wf) (h : IsD g st S w) :
    Calls Try.prog 19 #[.pointer (some ⟨g, 0, none⟩)] w fun e w' => e = .returned (.int .i64 ((st.size : Int) - (st.all.length : Int))) ∧ ∃ m, w.drewN m = w' := disk_left_q g _ _ _ _ _ S w h hwf.2 hwf.1
theorem lAdd_size (st : DSt) (s : List UInt8) : (lAdd st s).2.size = st.size := by unfold lAdd dAppend; (repeat' split) <;> rfl
theorem lAdd_down (st : DSt) (s : List UInt8) : (lAdd st s).2.down = st.down := by unfold lAdd dAppend; (repeat' split) <;> rfl
theorem lAdd_boots (st : DSt) (s : List UInt8) : (lAdd st s).2.boots = st.boots := by unfold lAdd dAppend; (repeat' split) <;> rfl
theorem dSync_down (st : DSt) : (dSync st).2.down = st.down := by unfold dSync; split <;> rfl
theorem dSync_boots (st : DSt) : (dSync st).2.boots = st.boots := by unfold dSync; split <;> rfl
theorem dOff_boots (st : DSt) (k : Int) (x : UInt8) : (dOff st k x).boots = st.boots := by unfold dOff; split <;> rfl
theorem dOn_boots (st : DSt) : (dOn st).boots ≤ st.boots + 1 := by
  unfold dOn
  split
  · exact Nat.le_refl _
  · omega
theorem local_lrd (gl gd n : Nat) (v : Value) (l : List (List UInt8)) (st : DSt) : ∀ B ∈ [IsL gl gd n, IsRows v l, IsD gd st], LocalA B := by
  intro B hB
  simp only [List.mem_cons, List.not_mem_nil, or_false] at hB
  rcases hB with rfl | rfl | rfl
  · exact IsL.local gl gd n
  · exact IsRows.local v l
  · exact IsD.local gd st
theorem local_lr (gl gd n : Nat) (v : Value) (l : List (List UInt8)) : ∀ B ∈ [IsL gl gd n, IsRows v l], LocalA B := by
  intro B hB
  simp only [List.mem_cons, List.not_mem_nil, or_false] at hB
  rcases hB with rfl | rfl
  · exact IsL.local gl gd n
  · exact IsRows.local v l
theorem keep_ld {gl gd n : Nat} {st : DSt} {w wc w' : World} (hU : Upd (fun _ => False) (Sep [IsL gl gd n, IsD gd st]) w wc) (hf : Fr wc w') : Upd (fun _ => False) (Sep [IsL gl gd n, IsD gd st]) w w' := Upd.fresh (local_ld gl gd n st) hU hf
theorem lOpen_again (st : DSt) : (wScan (lOpen st).all) = wScan st.all ∧ (lOpen (lOpen st)).all = (lOpen st).all := by
  have h1 : wScan (lOpen st).all = wScan st.all := by rw [lOpen_all, wScan_again]
  refine ⟨h1, ?_⟩
  rw [lOpen_all (lOpen st), h1, lOpen_all, List.take_take, Nat.min_self]
theorem scan_len (st : DSt) (h : st.wf) : (wScan st.all).1.length ≤ 262144 := by
  have h1 := (wScan_le st.all.length st.all (Nat.le_refl _)).2
  have h2 := h.1
  have h3 := h.2
  omega
/-- A disk alone is handed over to be opened. -/
theorem open_step {gd : Nat} {st : DSt} {w wc : World} (hU : Upd (fun _ => False) (Sep [IsD gd st]) w wc) :
    ∃ S, IsD gd st S wc ∧ ∀ gl n v l st' w', Upd S (Sep [IsL gl gd n, IsRows v l, IsD gd st']) wc w' → Upd (fun _ => False) (Sep [IsL gl gd n, IsRows v l, IsD gd st']) w w' := by
  obtain ⟨S, h1, k1⟩ := Upd.call (L := []) (by simp) hU
  exact ⟨S, h1, fun gl n v l st' w' h => only_open hU k1 h⟩
/-- The disk beside an opened log, opened again. -/
theorem open_again {ga gd n : Nat} {x : Value} {l : List (List UInt8)} {st : DSt} {w wc : World} (hU : Upd (fun _ => False) (Sep [IsL ga gd n, IsRows x l, IsD gd st]) w wc) :
    ∃ S, IsD gd st S wc ∧ ∀ gl m v l' st' w', Upd S (Sep [IsL gl gd m, IsRows v l', IsD gd st']) wc w' → Upd (fun _ => False) (Sep [IsL gl gd m, IsRows v l', IsD gd st', IsL ga gd n, IsRows x l]) w w' := by
  have h3 := hU.third
  obtain ⟨S, h1, k1⟩ := Upd.call (local_lr ga gd n x l) h3
  exact ⟨S, h1, fun gl m v l' st' w' h => Upd.flat [IsL gl gd m, IsRows v l', IsD gd st'] (k1 _ _ h)⟩

end Go.Proofs.Ythdhcllljmkamaa
