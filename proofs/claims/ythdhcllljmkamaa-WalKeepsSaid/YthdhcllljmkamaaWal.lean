/- The walks of package wal's bytes and of their reference. -/
import Derived.Test.YthdhcllljmkamaaCrc2
import Derived.Test.YthdhcllljmkamaaWalPure
import Derived.Test.YthdhcllljmkamaaApp
import Derived.Test.YthdhcllljmkamaaDRow
namespace Go.Proofs.Ythdhcllljmkamaa
open Go.RowKit
set_option linter.unusedVariables false

def baOf (l : List UInt8) : ByteArray := ⟨l.toArray⟩
theorem baOf_list (l : List UInt8) : (baOf l).data.toList = l := rfl
theorem baOf_size (l : List UInt8) : (baOf l).size = l.length := by show l.toArray.size = _; rw [List.size_toArray]
theorem ba_of (s : ByteArray) : baOf s.data.toList = s := ba_ext rfl
theorem wal_of1 (s : ByteArray) (b : Nat) (w : World) (hs : s.size ≤ maxLen) (hc : w.cell? ⟨b, 0, none⟩ = some (.string s)) :
    Calls Try.prog 51 #[.slice (some ⟨b, 0, none⟩) 1 1] w fun e w' => e = .returned (.int .u32 (crcOf s.data.toList : Nat)) ∧ w = w' :=
  crc_of [s] b 1 w (by simp [maxLen]) (by simpa using hs) (fun i hi => by
    obtain rfl : i = 0 := by simpa using hi
    exact hc)
theorem head_nums (n : Nat) : strOfNums [(n : Int) / 256 % 256, (n : Int) % 256] = baOf (wHead n) := by
  have h1 : (n : Int) / 256 = ((n / 256 : Nat) : Int) := by omega
  rw [h1]
  simp only [strOfNums, List.map_cons, List.map_nil, u8_cast]
  rfl
theorem frame_sum (s : ByteArray) : (baOf (wHead s.size) ++ s) ++ (⟨(crcTail (crcOf (baOf (wHead s.size) ++ s).data.toList)).toArray⟩ : ByteArray) = baOf (wFrame s.data.toList) := by
  apply ba_ext
  rw [ba_append, ba_append]
  show (wHead s.size ++ s.data.toList) ++ crcTail _ = wFrame s.data.toList
  unfold wFrame
  rw [ba_len]
  rfl

set_option maxHeartbeats 1000000 in
theorem wal_frame (s : ByteArray) (w : World) (hs : s.size ≤ 1000000) :
    Calls Try.prog 46 #[.string s] w fun e w' => e = .returned (.string (baOf (wFrame s.data.toList))) ∧ Fr w w' := by
  have hcv := fun w a b => conv_new2 (P := Try.prog) Try.underlying45 Try.underlying5 Try.underlying9 w a b
  have hT : ∀ c, (⟨(crcTail c).toArray⟩ : ByteArray).size = 4 := fun _ => rfl
  have h2 : (baOf (wHead s.size)).size = 2 := rfl
  have HH := Lib.hid (head_nums s.size)
  have HF := Lib.hid (frame_sum s)
  have h1000 : s.size ≤ 9223372036854775000 := by omega
  have hsum : ∀ a b, (strOfNums [a, b]).size = 2 := fun _ _ => rfl
  clear h2
  go_enter Try.func46, Try.ntmps46
  go_wp2_with fail
  rw [HH.out]
  have hz : (baOf (wHead s.size) ++ s).size = s.size + 2 := by rw [ByteArray.size_append]; show 2 + _ = _; omega
  have hz2 : (baOf (wHead s.size) ++ s).size ≤ maxLen := by rw [hz]; unfold maxLen; omega
  have hz3 : (baOf (wHead s.size) ++ s).size ≤ 1000002 := by omega
  clear hz HH
  generalize baOf (wHead s.size) ++ s = q at *
  refine (wal_of1 q _ _ hz2 (by simp)).mono ?_
  rintro e w1 ⟨rfl, rfl⟩
  go_wp2_with fail
  refine (crc_tail _ _ (crcOf_lt _)).mono ?_
  rintro e w1 ⟨rfl, hb⟩
  have HB := Lib.hid hb
  clear hb
  go_wp2
  go_ret
  exact ⟨ret_str HF.out, (((Fr.refl w).alloc _).alloc _).trans (HB.out)⟩

theorem next_num (s : ByteArray) (h : 2 ≤ s.size) : wNum s.data.toList = s[0].toNat * 256 + s[1].toNat := by
  have e0 : s.data.toList[0]? = some s[0] := by rw [List.getElem?_eq_getElem (by rw [ba_len]; omega)]; rfl
  have e1 : s.data.toList[1]? = some s[1] := by rw [List.getElem?_eq_getElem (by rw [ba_len]; omega)]; rfl
  unfold wNum
  rw [List.getD_eq_getElem?_getD, List.getD_eq_getElem?_getD, e0, e1]
  rfl
set_option maxHeartbeats 1000000 in
theorem wal_next_short (s : ByteArray) (w : World) (h : s.size < 6) :
    Calls Try.prog 44 #[.string s] w fun e w' => e = .returned (.tuple #[.string ⟨#[]⟩, .bool false]) ∧ Fr w w' := by
  have h2 : (s.size : Int) < 6 := by omega
  go_enter Try.func44, Try.ntmps44
  go_wp2
  go_ret2
  exact ⟨rfl, Fr.refl w⟩
theorem or_bytes (x y : Nat) (hx : x < 256) (hy : y < 256) : bits .or .i64 ((x : Int) * 256) (y : Int) = ((x * 256 + y : Nat) : Int) := by
  have e : (x : Int) * 256 = ((x * 256 : Nat) : Int) := by omega
  have hor : x * 256 ||| y = x * 256 + y := nat_join 8 (x * 256) y (by omega) (by omega)
  rw [e]
  show IntKind.i64.wrap ((BitVec.ofInt 64 ((x * 256 : Nat) : Int) ||| BitVec.ofInt 64 (y : Int)).toNat : Int) = _
  rw [BitVec.toNat_or, ofInt_u64 _ (by omega), ofInt_u64 _ (by omega), hor]
  exact IntWalk.i64_in _ (by omega)
set_option maxHeartbeats 1000000 in
theorem wal_next_none (s : ByteArray) (w : World) (hs : s.size ≤ 1000000) (h6 : 6 ≤ s.size) (hn : s.size < wNum s.data.toList + 6) :
    Calls Try.prog 44 #[.string s] w fun e w' => e = .returned (.tuple #[.string ⟨#[]⟩, .bool false]) ∧ Fr w w' := by
  have h0 : 0 < s.size := by omega
  have h1 : 1 < s.size := by omega
  have h11 : 1 < (s.size : Int) := by omega
  have hnn := next_num s (by omega)
  have h60 : decide ((s.size : Int) < 6) = false := decide_eq_false (show ¬ (s.size : Int) < 6 by omega)
  obtain ⟨x0, hx0⟩ : ∃ x0, s[0] = x0 := ⟨_, rfl⟩
  obtain ⟨x1, hx1⟩ : ∃ x1, s[1] = x1 := ⟨_, rfl⟩
  rw [hx0, hx1] at hnn
  rw [hnn] at hn
  have b0 := x0.toNat_lt
  have b1 := x1.toNat_lt
  have k0 : IntKind.i64.wrap (x0.toNat : Int) = x0.toNat := IntWalk.i64_in _ (by omega)
  have k1 : IntKind.i64.wrap (x1.toNat : Int) = x1.toNat := IntWalk.i64_in _ (by omega)
  have k2 : IntKind.i64.wrap ((x0.toNat : Int) * 256) = (x0.toNat : Int) * 256 := IntWalk.i64_in _ (by omega)
  have k3 := or_bytes x0.toNat x1.toNat b0 b1
  obtain ⟨n, hnx⟩ : ∃ n, x0.toNat * 256 + x1.toNat = n := ⟨_, rfl⟩
  rw [hnx] at k3 hn
  have hn5 : n ≤ 65535 := by omega
  have hn6 : decide (65535 < (n : Int)) = false := decide_eq_false (show ¬ 65535 < (n : Int) by omega)
  have hn7 : (s.size : Int) < (n : Int) + 6 := by omega
  clear hnn hnx
  go_enter Try.func44, Try.ntmps44
  go_wp2_with fail
  go_quiet (fail)
  go_wp2
  go_ret2
  exact ⟨rfl, (Fr.refl w).drewN _⟩
set_option maxHeartbeats 1000000 in
theorem wal_next_check (s : ByteArray) (g : Bool) (w : World) (hs : s.size ≤ 1000000) (h6 : 6 ≤ s.size) (hn : wNum s.data.toList + 6 ≤ s.size) (hg : crcGood (s.data.toList.take (wNum s.data.toList + 6)) = g) :
    Calls Try.prog 44 #[.string s] w fun e w' => e = .returned (.tuple #[.string (if g = true then baOf ((s.data.toList.take (wNum s.data.toList + 2)).drop 2) else ⟨#[]⟩), .bool g]) ∧ Fr w w' := by
  have h0 : 0 < s.size := by omega
  have h1 : 1 < s.size := by omega
  have h11 : 1 < (s.size : Int) := by omega
  have hnn := next_num s (by omega)
  have h60 : decide ((s.size : Int) < 6) = false := decide_eq_false (show ¬ (s.size : Int) < 6 by omega)
  obtain ⟨x0, hx0⟩ : ∃ x0, s[0] = x0 := ⟨_, rfl⟩
  obtain ⟨x1, hx1⟩ : ∃ x1, s[1] = x1 := ⟨_, rfl⟩
  rw [hx0, hx1] at hnn
  rw [hnn] at hn hg ⊢
  have b0 := x0.toNat_lt
  have b1 := x1.toNat_lt
  have k0 : IntKind.i64.wrap (x0.toNat : Int) = x0.toNat := IntWalk.i64_in _ (by omega)
  have k1 : IntKind.i64.wrap (x1.toNat : Int) = x1.toNat := IntWalk.i64_in _ (by omega)
  have k2 : IntKind.i64.wrap ((x0.toNat : Int) * 256) = (x0.toNat : Int) * 256 := IntWalk.i64_in _ (by omega)
  have k3 := or_bytes x0.toNat x1.toNat b0 b1
  obtain ⟨n, hnx⟩ : ∃ n, x0.toNat * 256 + x1.toNat = n := ⟨_, rfl⟩
  rw [hnx] at k3 hn hg ⊢
  have hn5 : n ≤ 65535 := by omega
  have hn6 : decide (65535 < (n : Int)) = false := decide_eq_false (show ¬ 65535 < (n : Int) by omega)
  have hn7 : (n : Int) + 6 ≤ (s.size : Int) := by omega
  clear hnn hnx
  have HG := Lib.hid hg
  clear hg
  go_enter Try.func44, Try.ntmps44
  go_wp2_with fail
  go_quiet (fail)
  go_wp2_with fail
  refine (crc_check_any (s.extract 0 (n + 6)) _ (by rw [ByteArray.size_extract]; unfold maxLen; omega)).mono ?_
  rintro e w1 ⟨rfl, hb⟩
  have HB := Lib.hid hb
  have hx : (s.extract 0 (n + 6)).data.toList = s.data.toList.take (n + 6) := ba_head s (n + 6)
  rw [hx, HG.out]
  have HR := Lib.hid (show crcRest (s.data.toList.take (n + 6)) = if g = true then s.data.toList.take (n + 2) else [] by
    unfold crcRest
    rw [HG.out, List.length_take, ba_len, Nat.min_eq_left (by omega), List.take_take]
    rw [Nat.min_eq_left (by omega)]
    rfl)
  rw [HR.out]
  clear hb hx HG HR k0 k1 k2 k3 hx0 hx1
  cases g
  · go_wp2
    go_ret2
    exact ⟨rfl, ((Fr.refl w).drewN _).trans HB.out⟩
  · have hl : (⟨(s.data.toList.take (n + 2)).toArray⟩ : ByteArray).size = n + 2 := by
      show Array.size _ = _
      rw [List.size_toArray, List.length_take, ba_len]
      omega
    have hl2 : 2 ≤ (⟨(s.data.toList.take (n + 2)).toArray⟩ : ByteArray).size := by omega
    have hl3 : (2 : Int) ≤ ((⟨(s.data.toList.take (n + 2)).toArray⟩ : ByteArray).size : Int) := by omega
    have HX : Hid ((⟨(s.data.toList.take (n + 2)).toArray⟩ : ByteArray).extract 2 (⟨(s.data.toList.take (n + 2)).toArray⟩ : ByteArray).size = baOf ((s.data.toList.take (n + 2)).drop 2)) := ba_ext (by rw [ba_tail]; rfl)
    clear hl
    have e0 : (if True then s.data.toList.take (n + 2) else []) = s.data.toList.take (n + 2) := rfl
    simp only [if_true]
    generalize (⟨(s.data.toList.take (n + 2)).toArray⟩ : ByteArray) = q at *
    go_wp2
    go_ret2
    rw [HX.out]
    exact ⟨rfl, ((Fr.refl w).drewN _).trans HB.out⟩
/-- next, whatever the bytes. -/
theorem wal_next (s : ByteArray) (w : World) (hs : s.size ≤ 1000000) :
    Calls Try.prog 44 #[.string s] w fun e w' => e = .returned (.tuple #[.string (match wNext s.data.toList with | none => ⟨#[]⟩ | some r => baOf r), .bool (wNext s.data.toList).isSome]) ∧ Fr w w' := by
  by_cases h6 : s.size < 6
  · have e : wNext s.data.toList = none := by unfold wNext; rw [if_pos (.inl (by rw [ba_len]; exact h6))]
    rw [e]
    exact wal_next_short s w h6
  · by_cases hn : s.size < wNum s.data.toList + 6
    · have e : wNext s.data.toList = none := by unfold wNext; rw [if_pos (.inr (by rw [ba_len]; exact hn))]
      rw [e]
      exact wal_next_none s w hs (by omega) hn
    · have h := wal_next_check s _ w hs (by omega) (by omega) rfl
      have e : wNext s.data.toList = if crcGood (s.data.toList.take (wNum s.data.toList + 6)) = true then some ((s.data.toList.take (wNum s.data.toList + 2)).drop 2) else none := by
        unfold wNext; rw [if_neg (by rw [ba_len]; omega)]
      rw [e]
      cases hg : crcGood (s.data.toList.take (wNum s.data.toList + 6))
      · rw [hg] at h; exact h
      · rw [hg] at h; exact h
set_option maxHeartbeats 400000 in
theorem wal_size (s : ByteArray) (w : World) (hs : s.size ≤ 140737488351232) :
    Calls Try.prog 39 #[.string s] w fun e w' => e = .returned (.int .i64 ((s.size : Int) + 6)) ∧ w = w' := by
  go_enter Try.func39, Try.ntmps39
  go_wp2
  go_ret
  exact ⟨rfl, rfl⟩

end Go.Proofs.Ythdhcllljmkamaa
