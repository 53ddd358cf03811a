/- The walks of Scan, of its reference, and of Same. -/
import Derived.Test.YthdhcllljmkamaaWal
import Derived.Maps.AppendAt
import Derived.WalkMore
namespace Go.Proofs.Ythdhcllljmkamaa
open Go.RowKit
set_option linter.unusedVariables false

theorem infoStr : (Try.prog.info? 9).map (fun i => (i.zero, i.size, i.bytes)) = some (some (.string ByteArray.empty), 1, 16) := by kernel_rfl
def recRow (l : List (List UInt8)) : List Value := strRow (l.map baOf)
theorem recRow_len (l : List (List UInt8)) : (recRow l).length = l.length := by simp [recRow, strRow]
theorem recRow_snoc (l : List (List UInt8)) (r : List UInt8) : recRow (l ++ [r]) = recRow l ++ [.string (baOf r)] := by simp [recRow, strRow]
/-- What a scan answers. -/
def ScanPost (l : List UInt8) (w : World) (e : Ending) (w' : World) : Prop :=
  ∃ v, e = .returned (.tuple #[v, .int .i64 ((wScan l).2 : Nat)]) ∧ w'.ownsRow w.heap.size 9 1 v (wScan l).1.length (recRow (wScan l).1) ∧ Fr w w'

set_option maxHeartbeats 2000000 in
theorem wal_scan (s : ByteArray) (w : World) (hs : s.size ≤ 1000000) :
    Calls Try.prog 30 #[.string s] w (ScanPost s.data.toList w) := by
  obtain ⟨i0, hi, hz0, hz1, hz2⟩ := info_parts infoStr
  go_enter Try.func30, Try.ntmps30
  go_wp2_with fail
  go_step3
  go_wp2_with fail
  go_step3
  go_wp2_with fail
  go_loopw [4, 5] (fun v i wr => ∃ (k : Nat) (out : List (List UInt8)), k ≤ s.size ∧ out.length ≤ k ∧ i = .int .i64 k ∧ Hid (wr.ownsRow w.heap.size 9 1 v out.length (recRow out)) ∧ Hid (Fr w wr) ∧ Hid (wScan s.data.toList = (out ++ (wScan (s.data.toList.drop k)).1, k + (wScan (s.data.toList.drop k)).2))) (fun _ i _ => (s.size - intOf i).toNat)
  case atStart => exact ⟨0, [], by omega, Nat.zero_le _, rfl, World.ownsRow_nil _ _ _ _, Fr.refl _, show _ = _ by simp⟩
  case round =>
    obtain ⟨k, out, hk, hok, rfl, hown, hfr, hsc⟩ := hrel
    have htl : (s.extract k s.size).data.toList = s.data.toList.drop k := ba_tail s k
    have hext : (s.extract k s.size).size ≤ 1000000 := by rw [ByteArray.size_extract]; omega
    have hk2 : (k : Int) ≤ (s.size : Int) := by omega
    obtain ⟨q, hq⟩ : ∃ q, s.extract k s.size = q := ⟨_, rfl⟩
    rw [hq] at htl hext
    have hnx := fun w => wal_next q w hext
    rw [htl] at hnx
    have HNX := Lib.hid hnx
    clear hnx htl
    cases hr : wNext (s.data.toList.drop k) with
    | none =>
      have HST := Lib.hid (wScan_stop hsc.out hr)
      have HNX2 := HNX.out
      rw [hr] at HNX2
      have HN := Lib.hid HNX2
      clear HNX HNX2 hr
      go_wp2_with fail
      refine (HN.out _).mono ?_
      rintro e w1 ⟨rfl, hf⟩
      have HF := Lib.hid hf
      clear hf
      go_wp2
      rw [Exit.noGoto_ret]
      go_ret2
      unfold ScanPost
      rw [HST.out]
      exact ⟨u4, rfl, row_keep hown.out (fun j hj => HF.out.block j (hown.out.lt j hj).2), hfr.out.trans HF.out⟩
    | some r =>
      have hrl := wNext_len hr
      have hrl2 : k + (r.length + 6) ≤ s.size := by
        have h2 := hrl.2
        rw [List.length_drop, ba_len] at h2
        omega
      have HST := Lib.hid (wScan_round hsc.out hr)
      have HNX2 := HNX.out
      rw [hr] at HNX2
      have HN := Lib.hid HNX2
      clear HNX HNX2 hr hrl hsc
      have hrs : (baOf r).size = r.length := baOf_size r
      obtain ⟨rb, hrb⟩ : ∃ rb, baOf r = rb := ⟨_, rfl⟩
      rw [hrb] at hrs
      have HRB := Lib.hid hrb
      have HRS := Lib.hid hrs
      have hrs2 : rb.size ≤ 1000000 := by omega
      clear hrb hrs
      go_wp2_with fail
      refine (HN.out _).mono ?_
      rintro e w1 ⟨rfl, hf⟩
      have hown1 := row_keep hown.out (fun j hj => hf.block j (hown.out.lt j hj).2)
      have HF := Lib.hid (hfr.out.trans hf)
      have hwz : w.heap.size ≤ w1.heap.size := HF.out.size
      clear hf hown hfr HN
      rw [show baOf r = rb from HRB.out]
      go_wp2_with (at_builtin; refine wpList_append_own_at _ rfl _ _ 47 rfl w.heap.size 9 i0 (.string ByteArray.empty) 1 16 Try.underlying47 hi hz0 hz1 hz2 rfl (by decide) _ _ _ rfl (hown1.alloc _) ⟨w1.heap.size, 0, none⟩ 1 1 [.string rb] rfl rfl ?c1 ?c2 ?c3 ?c4 ?c5 ?_)
      case c1 =>
        intro j u hj
        match j, hj with
        | 0, hj => simp at hj; subst hj; simp [Addr.add]
      case c2 => intro u hu; simp at hu; subst hu; rfl
      case c3 => unfold maxLen; omega
      case c4 => omega
      case c5 => simp; omega
      intro v' w2 hown2 hgrow _ hat
      have HO := Lib.hid hown2
      have HF2 := Lib.hid ((HF.out.alloc (.cells #[.string rb] 9)).grown hgrow (fun j hj => (hown1.lt j hj).1))
      clear hown2 hgrow hat hown1
      go_wp2_with fail
      refine (wal_size rb _ (by omega)).mono ?_
      rintro e w3 ⟨rfl, rfl⟩
      go_wp2
      go_roundw
      case rel =>
        refine ⟨k + (r.length + 6), out ++ [r], hrl2, by rw [List.length_append, List.length_singleton]; omega, ?_, ?_, HF2.out, HST.out⟩
        · rw [HRS.out]; exact val_int (by omega)
        · rw [recRow_snoc, HRB.out, List.length_append, List.length_singleton]; exact HO.out
      case measure =>
        have h5 := HRS.out
        simp only [intOf]
        omega

set_option maxHeartbeats 1000000 in
/-- The reference's frame. -/
theorem ref_frame (s : ByteArray) (w : World) (hs : s.size ≤ 1000000) :
    Calls Try.prog 45 #[.string s] w fun e w' => e = .returned (.string (baOf (wFrame s.data.toList))) ∧ Fr w w' := by
  have hcv := fun w a b => conv_new2 (P := Try.prog) Try.underlying45 Try.underlying5 Try.underlying9 w a b
  have hT : ∀ c, (⟨(crcTail c).toArray⟩ : ByteArray).size = 4 := fun _ => rfl
  have HH := Lib.hid (head_nums s.size)
  have HF := Lib.hid (frame_sum s)
  have hsum : ∀ a b, (strOfNums [a, b]).size = 2 := fun _ _ => rfl
  go_enter Try.func45, Try.ntmps45
  go_wp2_with fail
  rw [HH.out]
  have hz : (baOf (wHead s.size) ++ s).size = s.size + 2 := by rw [ByteArray.size_append]; show 2 + _ = _; omega
  have hz2 : (baOf (wHead s.size) ++ s).size ≤ maxLen := by rw [hz]; unfold maxLen; omega
  have hz3 : (baOf (wHead s.size) ++ s).size ≤ 1000002 := by omega
  clear hz HH
  generalize baOf (wHead s.size) ++ s = q at *
  refine (ref04_of q _ hz2).mono ?_
  rintro e w1 ⟨rfl, rfl⟩
  go_wp2_with fail
  refine (ref04_tail _ _ (crcOf_lt _)).mono ?_
  rintro e w1 ⟨rfl, hb⟩
  have HB := Lib.hid hb
  clear hb
  go_wp2
  go_ret
  exact ⟨ret_str HF.out, ((Fr.refl w).alloc _).trans HB.out⟩

end Go.Proofs.Ythdhcllljmkamaa
