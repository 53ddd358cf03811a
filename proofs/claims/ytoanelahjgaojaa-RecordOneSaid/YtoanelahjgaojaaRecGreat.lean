/- The walk of the reference's Great. -/
import Derived.Test.YtoanelahjgaojaaRecBytes
namespace Go.Proofs.Ytoanelahjgaojaa
open Go.RowKit
set_option linter.unusedVariables false
set_option maxRecDepth 100000

def wSum (l : List PWrite) : Nat := (l.map fun w => w.key.size + w.val.size).sum
def hSum (l : List PHold) : Nat := (l.map fun w => w.key.size).sum
theorem wSum_take (l : List PWrite) (k : Nat) (h : k < l.length) : wSum (l.take (k + 1)) = wSum (l.take k) + (l[k].key.size + l[k].val.size) := by
  unfold wSum
  rw [List.take_succ_eq_append_getElem h, List.map_append, List.sum_append_nat]
  simp
theorem hSum_take (l : List PHold) (k : Nat) (h : k < l.length) : hSum (l.take (k + 1)) = hSum (l.take k) + l[k].key.size := by
  unfold hSum
  rw [List.take_succ_eq_append_getElem h, List.map_append, List.sum_append_nat]
  simp
/-- Not too great. -/
def PRec.modest (x : PRec) : Prop := x.nodes.length + x.writes.length + x.holds.length + x.schema.size ≤ 262144 ∧ wSum x.writes ≤ 262144 ∧ hSum x.holds ≤ 262144
theorem encS_len_le (s : ByteArray) (h : s.size ≤ 140737488351232) : (encS s.data.toList).length ≤ 10 + s.size := by
  unfold encS
  rw [List.length_append, ba_len]
  have := encI_len (n := (s.size : Int)) (by omega) (by omega)
  omega
theorem encWs_len : ∀ (l : List PWrite), wSum l ≤ 262144 → (encWs l).length ≤ 30 * l.length + wSum l
  | [], _ => by simp [encWs, wSum]
  | x :: l, h => by
    have e : wSum (x :: l) = (x.key.size + x.val.size) + wSum l := by simp [wSum]
    have ih := encWs_len l (by omega)
    have e2 : encWs (x :: l) = encW x ++ encWs l := by simp [encWs]
    have h1 := encS_len_le x.key (by omega)
    have h2 := encS_len_le x.val (by omega)
    have h3 := encB_len x.del
    rw [e2, List.length_append, List.length_cons]
    unfold encW
    rw [List.length_append, List.length_append]
    omega
theorem encHs_len : ∀ (l : List PHold), hSum l ≤ 262144 → (∀ h ∈ l, in64 h.mode) → (encHs l).length ≤ 20 * l.length + hSum l
  | [], _, _ => by simp [encHs, hSum]
  | x :: l, h, hm => by
    have e : hSum (x :: l) = x.key.size + hSum l := by simp [hSum]
    have ih := encHs_len l (by omega) (fun y hy => hm y (List.mem_cons_of_mem _ hy))
    have e2 : encHs (x :: l) = encH x ++ encHs l := by simp [encHs]
    have h1 := encS_len_le x.key (by omega)
    have h2 := encI_len (hm x (List.mem_cons_self ..)).1 (hm x (List.mem_cons_self ..)).2
    rw [e2, List.length_append, List.length_cons]
    unfold encH
    rw [List.length_append]
    omega
theorem modest_small (x : PRec) (hs : x.sized) (h : x.modest) : x.small := by
  obtain ⟨h1, h2, h3⟩ := h
  obtain ⟨s1, s2, s3, s4, s5, s6, s7⟩ := hs
  have hn := encIs_len x.nodes (fun n hn => s5 n hn)
  have hi := encIs_len [x.node, x.epoch, x.num] (fun n hn => by simp at hn; rcases hn with rfl | rfl | rfl <;> assumption)
  have hk := encI_len s1.1 s1.2
  have hl := encI_len (n := (x.nodes.length : Int)) (by omega) (by omega)
  have hw := encWs_len x.writes h2
  have hh := encHs_len x.holds h3 s6
  simp only [List.length_cons, List.length_nil] at hi
  refine ⟨?_, by omega, by omega, by omega, by omega⟩
  unfold headRec
  rw [List.length_append, List.length_append, List.length_append]
  omega
def RGreatPost (x : PRec) (w : World) (e : Ending) (w' : World) : Prop := ∃ r : Bool, e = .returned (.bool r) ∧ Fr w w' ∧ (r = false → x.modest)

set_option maxHeartbeats 4000000 in
theorem rec_great (x : PRec) (p : RecPl) (w : World) (hs : x.sized) (hr : RecAt w x p) :
    Calls Try.prog 13 #[.agg (recCells x p)] w (RGreatPost x w) := by
  have HR := Lib.hid hr
  have HS := Lib.hid hs
  have HB := Lib.hid (Blk.new w 28 (recCells x p))
  have HF := Lib.hid ((Fr.refl w).alloc (.cells (recCells x p) 28))
  have l1 : x.nodes.length ≤ 1000000000000000 := hs.2.2.2.2.2.2.1
  have l2 : x.writes.length ≤ 1000000000000000 := hs.2.2.2.2.2.2.2.1
  have l3 : x.holds.length ≤ 1000000000000000 := hs.2.2.2.2.2.2.2.2.1
  have l4 : x.schema.size ≤ 140737488351232 := hs.2.2.2.2.2.2.2.2.2.1
  clear hs hr
  go_enter Try.func13, Try.ntmps13
  unfold recCells at HB HF ⊢
  go_upto_region 1 with (fail)
  generalize w.heap.size = gx at HB ⊢
  generalize hw0 : w.alloc _ = w0 at HB HF ⊢
  clear hw0
  obtain ⟨c0, c1, c2, c3, c4, c5, c6, c7⟩ := rec_cells (x := x) (p := p) HB.out
  by_cases h0 : x.nodes.length + x.writes.length + x.holds.length + x.schema.size ≤ 262144
  · have d0 : decide ((262144 : Int) < (x.nodes.length : Int) + (x.writes.length : Int) + (x.holds.length : Int) + (x.schema.size : Int)) = false := decide_eq_false (by omega)
    have HH0 := Lib.hid h0
    go_wp2_with fail
    go_loopw [3, 28] (fun n i wr => ∃ (k q : Nat), k ≤ x.writes.length ∧ q ≤ 262144 ∧ i = .int .i64 k ∧ n = .int .i64 q ∧ Hid (Fr w0 wr) ∧ Hid (q = x.nodes.length + x.writes.length + x.holds.length + x.schema.size + wSum (x.writes.take k))) (fun _ i _ => (x.writes.length - intOf i).toNat)
    case atStart => exact ⟨0, x.nodes.length + x.writes.length + x.holds.length + x.schema.size, by omega, by omega, rfl, by go_num, Fr.refl w0, rfl⟩
    case round =>
      obtain ⟨k, q, hk, hq, rfl, rfl, hf, hsum⟩ := hrel
      by_cases hlt : k < x.writes.length
      · obtain ⟨b, o, hb1, y0, y1, y2⟩ := rdWrite_at ((HR.out.2.1.fr HF.out).fr hf.out) hlt
        have HT := Lib.hid (wSum_take x.writes k hlt)
        have hsz : x.writes[k].key.size ≤ 140737488351232 ∧ x.writes[k].val.size ≤ 140737488351232 := HS.out.2.2.2.2.2.2.2.2.2.2.1 _ (List.getElem_mem hlt)
        rw [hb1]
        clear hb1 c0 c1 c2 c3 c4 c5 c6 c7 d0
        generalize hx : x.writes[k] = xk at *
        obtain ⟨wkey, wval, wdel⟩ := xk
        simp only at y0 y1 y2 hsz HT
        obtain ⟨z1, z2⟩ := hsz
        clear hx
        by_cases h1 : q + wkey.size + wval.size ≤ 262144
        · have d1 : decide ((262144 : Int) < (q : Int) + (wkey.size : Int) + (wval.size : Int)) = false := decide_eq_false (by omega)
          have H1 := Lib.hid h1
          clear h1
          go_wp2
          go_roundw
          case rel => exact ⟨k + 1, q + wkey.size + wval.size, by omega, H1.out, by go_num, by go_num, hf.out.alloc _, by show _ = _; rw [HT.out, hsum.out]; omega⟩
          case measure => simp [intOf]; omega
        · have d1 : decide ((262144 : Int) < (q : Int) + (wkey.size : Int) + (wval.size : Int)) = true := decide_eq_true (by omega)
          clear h1
          go_wp2
          go_ret
          exact ⟨true, rfl, HF.out.trans (hf.out.alloc _), fun h => Bool.noConfusion h⟩
      · obtain rfl : k = x.writes.length := by omega
        rw [List.take_length] at hsum
        have HB2 := Lib.hid (HB.out.fr hf.out)
        have HF2 := Lib.hid (HF.out.trans hf.out)
        have HQ := Lib.hid hsum.out
        have HQ2 := Lib.hid hq
        clear hlt c0 c1 c2 c3 c4 c5 c6 c7 HB HF hf hsum d0
        obtain ⟨c0, c1, c2, c3, c4, c5, c6, c7⟩ := rec_cells (x := x) (p := p) HB2.out
        go_wp2_with fail
        go_loopw [3, 47] (fun n i wq => ∃ (k r : Nat), k ≤ x.holds.length ∧ r ≤ 262144 ∧ i = .int .i64 k ∧ n = .int .i64 r ∧ Hid (Fr wr wq) ∧ Hid (r = q + hSum (x.holds.take k))) (fun _ i _ => (x.holds.length - intOf i).toNat)
        case atStart => exact ⟨0, q, by omega, by omega, rfl, rfl, Fr.refl wr, rfl⟩
        case round =>
          obtain ⟨k, r, hk, hr, rfl, rfl, hf, hsum⟩ := hrel
          by_cases hlt : k < x.holds.length
          · obtain ⟨b, o, hb1, y0, y1⟩ := rdHold_at ((HR.out.2.2.fr HF2.out).fr hf.out) hlt
            have HT := Lib.hid (hSum_take x.holds k hlt)
            have z1 : x.holds[k].key.size ≤ 140737488351232 := HS.out.2.2.2.2.2.2.2.2.2.2.2 _ (List.getElem_mem hlt)
            rw [hb1]
            clear hb1 c0 c1 c2 c3 c4 c5 c6 c7
            generalize hx : x.holds[k] = xk at *
            obtain ⟨wkey, wmode⟩ := xk
            simp only at y0 y1 z1 HT
            clear hx
            by_cases h1 : r + wkey.size ≤ 262144
            · have d1 : decide ((262144 : Int) < (r : Int) + (wkey.size : Int)) = false := decide_eq_false (by omega)
              have H1 := Lib.hid h1
              clear h1
              go_wp2
              go_roundw
              case rel => exact ⟨k + 1, r + wkey.size, by omega, H1.out, by go_num, by go_num, hf.out.alloc _, by show _ = _; rw [HT.out, hsum.out]; omega⟩
              case measure => simp [intOf]; omega
            · have d1 : decide ((262144 : Int) < (r : Int) + (wkey.size : Int)) = true := decide_eq_true (by omega)
              clear h1
              go_wp2
              go_ret
              exact ⟨true, rfl, HF2.out.trans (hf.out.alloc _), fun h => Bool.noConfusion h⟩
          · obtain rfl : k = x.holds.length := by omega
            rw [List.take_length] at hsum
            have HMO : Hid x.modest := by
              have e1 := hsum.out
              have e2 := HQ.out
              have e3 := HQ2.out
              have e4 := HH0.out
              exact ⟨by omega, by omega, by omega⟩
            have HF3 := Lib.hid (HF2.out.trans hf.out)
            clear hlt c0 c1 c2 c3 c4 c5 c6 c7 hsum hf
            go_wp2
            go_ret
            exact ⟨false, rfl, HF3.out, fun _ => HMO.out⟩
  · have d0 : decide ((262144 : Int) < (x.nodes.length : Int) + (x.writes.length : Int) + (x.holds.length : Int) + (x.schema.size : Int)) = true := decide_eq_true (by omega)
    clear h0
    go_wp2
    go_ret
    exact ⟨true, rfl, HF.out, fun h => Bool.noConfusion h⟩

end Go.Proofs.Ytoanelahjgaojaa
