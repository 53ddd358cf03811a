/- The walk of PackWrites. -/
import Derived.Test.YtkifcmlehiidiaaPackBack
import Derived.Test.YtkifcmlehiidiaaPackRef
namespace Go.Proofs.Ytkifcmlehiidiaa
open Go.RowKit
set_option linter.unusedVariables false

set_option maxHeartbeats 4000000 in
set_option maxRecDepth 100000 in
theorem pack_writes_small (a0 a1 a2 : Option Addr) (c0 c1 c2 : Nat) (a : List Int) (s : List ByteArray) (b : List Bool) (w : World)
    (ha : RdRow w a0 (intRow a)) (hs : RdRow w a1 (strRow s)) (hb : RdRow w a2 (boolRow b))
    (ia : inI64 a) (la : a.length ≤ 100) (ls : s.length ≤ 100) (lb : b.length ≤ 100) (hbytes : bytesIn s ≤ 1048576) (hsz : ∀ x ∈ s, x.size ≤ 1048576) :
    Calls Try.prog 7 #[.slice a0 a.length c0, .slice a1 s.length c1, .slice a2 b.length c2] w fun e w' => e = .returned (.bool true) ∧ Fr w w' := by
  have HA := Lib.hid ha
  have HB := Lib.hid hb
  have HS := Lib.hid hs
  have HIA := Lib.hid ia
  have HSZ := Lib.hid hsz
  clear ha hb hs ia hsz
  have l1 := encSs_len s (fun x hx => by have := HSZ.out x hx; omega)
  have l2 := encIs_len a HIA.out
  have l3 := encBs_len b
  go_enter Try.func7, Try.ntmps7
  go_wp2_with fail
  refine (pack_alive _).mono ?_
  rintro e w1 ⟨rfl, hf1⟩
  have HF1 := Lib.hid hf1
  have HU1 := Lib.hid (oneNew w1)
  clear hf1
  go_wp2_with fail
  generalize hgw : w1.heap.size = gw at *
  clear hgw
  obtain ⟨S1, hW, hS1, hup⟩ := HU1.out.one
  refine (writer_int _ _ S1 a0 c0 a _ hW (HA.out.fr (HF1.out.trans HU1.out.fr)) (fun b o e hn => apartRow hS1 HA.out HF1.out b o e (by simpa [intRow] using hn)) HIA.out (by simp; omega)).mono ?_
  rintro e w2 ⟨rfl, hu⟩
  have HU2 := Lib.hid (hup _ _ hu)
  clear hu hup hS1 hW HU1
  rw [List.nil_append] at HU2
  go_wp2_with fail
  obtain ⟨S1, hW, hS1, hup⟩ := HU2.out.one
  refine (writer_str _ _ S1 a1 c1 s _ hW (HS.out.fr (HF1.out.trans HU2.out.fr)) (fun b o e hn => apartRow hS1 HS.out HF1.out b o e (by simpa [strRow] using hn)) (fun x hx => by have := HSZ.out x hx; omega) (by omega)).mono ?_
  rintro e w3 ⟨rfl, hu⟩
  have HU3 := Lib.hid (hup _ _ hu)
  clear hu hup hS1 hW HU2
  go_wp2_with fail
  obtain ⟨S1, hW, hS1, hup⟩ := HU3.out.one
  refine (writer_bool _ _ S1 a2 c2 b _ hW (HB.out.fr (HF1.out.trans HU3.out.fr)) (fun b o e hn => apartRow hS1 HB.out HF1.out b o e (by simpa [boolRow] using hn)) (by rw [List.length_append]; omega)).mono ?_
  rintro e w4 ⟨rfl, hu⟩
  have HU4 := Lib.hid (hup _ _ hu)
  clear hu hup hS1 hW HU3
  generalize hF : encIs a ++ encSs (lists s) ++ encBs b = full at *
  have HFULL := Lib.hid hF
  clear hF
  go_wp2
  go_loopg [8, 10, 43] a.length (fun gh s8 _ si wr => ∃ (k : Nat) (al : ByteArray), k ≤ a.length ∧ gh = a.length - k ∧ si = .int .i64 k ∧ s8 = .string al ∧ Hid (al.data.toList = encIs (a.take k)) ∧ Hid (Upd (fun _ => False) (Sep [IsW gw full]) w1 wr))
  case atStart => exact ⟨0, _, by omega, by omega, rfl, rfl, rfl, HU4.out⟩
  case round =>
    obtain ⟨k, al, hk, rfl, rfl, rfl, hal, hu⟩ := hrel
    have hasz : al.size ≤ 500000 := by
      have h1 := congrArg List.length hal.out
      have h2 := encIs_len (a.take k) (fun n hn => HIA.out n (List.mem_of_mem_take hn))
      rw [List.length_take, Nat.min_eq_left hk] at h2
      rw [ba_len] at h1
      omega
    by_cases hlt : k < a.length
    · obtain ⟨ba, oa, rfl, hca⟩ := (HA.out.fr (HF1.out.trans hu.out.fr)).at (i := k) (v := .int .i64 a[k]) (by simp [intRow, hlt])
      have HTK := Lib.hid (encIs_take a k hlt)
      have HY := Lib.hid (HIA.out a[k] (List.getElem_mem hlt))
      have hyl := encI_len HY.out.1 HY.out.2
      generalize hy : a[k] = y at *
      clear hy
      go_wp2_with fail
      refine (ref_int y _ HY.out.1 HY.out.2).mono ?_
      rintro e wn ⟨rfl, hn⟩
      obtain ⟨z, hz⟩ : ∃ z : ByteArray, z = ⟨(encI y).toArray⟩ := ⟨_, rfl⟩
      rw [← hz]
      have HZ := Lib.hid (show z.data.toList = encI y by rw [hz])
      have hzs : z.size ≤ 5000 := by
        have h := congrArg List.length HZ.out
        rw [ba_len] at h
        omega
      have HN := Lib.hid (hu.out.fresh (by simp [IsW.local]) hn)
      clear hn hu hz
      go_wp2
      go_roundg (a.length - (k + 1))
      case measure => omega
      case rel =>
        refine ⟨k + 1, _, by omega, rfl, by go_num, rfl, ?_, HN.out⟩
        · show _ = _
          rw [HTK.out, ba_append, hal.out, HZ.out]
    · obtain rfl : k = a.length := by omega
      have hal2 : al.data.toList = encIs a := by have := hal.out; rwa [List.take_length] at this
      have HAL := Lib.hid hal2
      have HU := Lib.hid hu.out
      clear hal hal2 hu
      go_wp2
      go_loopg [8, 12, 54] s.length (fun gh s8 _ si wr => ∃ (k : Nat) (al : ByteArray), k ≤ s.length ∧ gh = s.length - k ∧ si = .int .i64 k ∧ s8 = .string al ∧ Hid (al.data.toList = encIs a ++ encSs (lists (s.take k))) ∧ Hid (∀ x ∈ s.take k, x.size ≤ 4096) ∧ Hid (Upd (fun _ => False) (Sep [IsW gw full]) w1 wr))
      case atStart => exact ⟨0, _, by omega, by omega, rfl, rfl, (HAL.out.trans (List.append_nil _).symm), (by intro x hx; simp at hx), HU.out⟩
      case round =>
        obtain ⟨k, al, hk, rfl, rfl, rfl, hal, hall, hu⟩ := hrel
        have hasz : al.size ≤ 500000 := by
          have h1 := congrArg List.length hal.out
          have h2 := encSs_len (s.take k) (fun n hn => by have := hall.out n hn; omega)
          have h3 := bytesIn_le (s.take k) hall.out
          rw [List.length_take, Nat.min_eq_left hk] at h2 h3
          rw [ba_len, List.length_append] at h1
          omega
        by_cases hlt : k < s.length
        · obtain ⟨ba, oa, rfl, hca⟩ := (HS.out.fr (HF1.out.trans hu.out.fr)).at (i := k) (v := .string s[k]) (by simp [strRow, hlt])
          have HTK := Lib.hid (encSs_take s k hlt)
          have ht2 := List.take_succ_eq_append_getElem hlt
          generalize hy : s[k] = y at *
          clear hy
          have HT2 := Lib.hid ht2
          clear ht2
          by_cases hbig : y.size ≤ 4096
          ·
            have hyl : (encS y.data.toList).length ≤ 5000 := by unfold encS; have h := encI_len (n := (y.data.toList.length : Int)) (by omega) (by rw [ba_len]; omega); rw [List.length_append, ba_len]; rw [ba_len] at h; omega
            go_wp2_with fail
            refine (ref_str y _ (by omega)).mono ?_
            rintro e wn ⟨rfl, hn⟩
            obtain ⟨z, hz⟩ : ∃ z : ByteArray, z = ⟨(encS y.data.toList).toArray⟩ := ⟨_, rfl⟩
            rw [← hz]
            have HZ := Lib.hid (show z.data.toList = encS y.data.toList by rw [hz])
            have hzs : z.size ≤ 5000 := by
              have h := congrArg List.length HZ.out
              rw [ba_len] at h
              omega
            have HN := Lib.hid (hu.out.fresh (by simp [IsW.local]) hn)
            clear hn hu hz
            go_wp2
            go_roundg (s.length - (k + 1))
            case measure => omega
            case rel =>
              refine ⟨k + 1, _, by omega, rfl, by go_num, rfl, ?_, ?_, HN.out⟩
              · show _ = _
                rw [HTK.out, ba_append, hal.out, HZ.out]
                simp only [List.append_assoc]
              · intro q hq
                rw [HT2.out] at hq
                rcases List.mem_append.mp hq with h | h
                · exact hall.out q h
                · rw [List.mem_singleton.mp h]; exact hbig
          · go_wp2
            go_ret
            exact ⟨rfl, HF1.out.trans hu.out.fr⟩
        · obtain rfl : k = s.length := by omega
          have hal2 : al.data.toList = encIs a ++ encSs (lists s) := by have := hal.out; rwa [List.take_length] at this
          have HAL := Lib.hid hal2
          have HU := Lib.hid hu.out
          clear hal hal2 hu
          have HSMALL := Lib.hid (show ∀ x ∈ s, x.size ≤ 4096 by have := hall.out; rwa [List.take_length] at this)
          have hbs2 := bytesIn_le s HSMALL.out
          clear hall
          go_wp2
          go_loopg [8, 14, 68] b.length (fun gh s8 _ si wr => ∃ (k : Nat) (al : ByteArray), k ≤ b.length ∧ gh = b.length - k ∧ si = .int .i64 k ∧ s8 = .string al ∧ Hid (al.data.toList = encIs a ++ encSs (lists s) ++ encBs (b.take k)) ∧ Hid (Upd (fun _ => False) (Sep [IsW gw full]) w1 wr))
          case atStart => exact ⟨0, _, by omega, by omega, rfl, rfl, (HAL.out.trans (List.append_nil _).symm), HU.out⟩
          case round =>
            obtain ⟨k, al, hk, rfl, rfl, rfl, hal, hu⟩ := hrel
            have hasz : al.size ≤ 500000 := by
              have h1 := congrArg List.length hal.out
              have h2 := encBs_len (b.take k)
              rw [List.length_take, Nat.min_eq_left hk] at h2
              rw [ba_len, List.length_append, List.length_append] at h1
              omega
            by_cases hlt : k < b.length
            · obtain ⟨ba, oa, rfl, hca⟩ := (HB.out.fr (HF1.out.trans hu.out.fr)).at (i := k) (v := .bool b[k]) (by simp [boolRow, hlt])
              have HTK := Lib.hid (encBs_take b k hlt)
              have hyl := encB_len b[k]
              generalize hy : b[k] = y at *
              clear hy
              go_wp2_with fail
              refine (ref_bool y _).mono ?_
              rintro e wn ⟨rfl, hn⟩
              obtain ⟨z, hz⟩ : ∃ z : ByteArray, z = ⟨(encB y).toArray⟩ := ⟨_, rfl⟩
              rw [← hz]
              have HZ := Lib.hid (show z.data.toList = encB y by rw [hz])
              have hzs : z.size ≤ 5000 := by
                have h := congrArg List.length HZ.out
                rw [ba_len] at h
                omega
              have HN := Lib.hid (hu.out.fresh (by simp [IsW.local]) hn)
              clear hn hu hz
              go_wp2
              go_roundg (b.length - (k + 1))
              case measure => omega
              case rel =>
                refine ⟨k + 1, _, by omega, rfl, by go_num, rfl, ?_, HN.out⟩
                · show _ = _
                  rw [HTK.out, ba_append, hal.out, HZ.out]
                  simp only [List.append_assoc]
            · obtain rfl : k = b.length := by omega
              have hal2 : al.data.toList = encIs a ++ encSs (lists s) ++ encBs b := by have := hal.out; rwa [List.take_length] at this
              have HAL := Lib.hid hal2
              have HU := Lib.hid hu.out
              clear hal hal2 hu
              rw [HFULL.out] at HAL
              have HE := Lib.hid (show (⟨full.toArray⟩ : ByteArray) = al from ba_ext (by rw [HAL.out]))
              go_wp2_with fail
              obtain ⟨S1, hW, hS1, hup⟩ := HU.out.one
              refine (writer_bytes _ _ S1 _ (IsWF.of hW)).mono ?_
              rintro e we ⟨rfl, hq⟩
              rw [HE.out]
              have HF := Lib.hid (HF1.out.trans (hup _ _ hq).fr)
              clear hq hup hS1 hW
              go_wp2
              go_ret
              exact ⟨by simp, HF.out⟩

set_option maxHeartbeats 4000000 in
set_option maxRecDepth 100000 in
theorem pack_writes_row (w : World) (a0 : Option Addr) (c0 : Nat) (a : List Int) (ma : a.length ≤ maxLen) (ha : RdRow w a0 (intRow a)) (ia : inI64 a)
    (a1 : Option Addr) (c1 : Nat) (s : List ByteArray) (ms : s.length ≤ maxLen) (hs : RdRow w a1 (strRow s)) (is : bytesIn s ≤ 1048576) (isz : ∀ x ∈ s, x.size ≤ 1048576)
    (a2 : Option Addr) (c2 : Nat) (b : List Bool) (mb : b.length ≤ maxLen) (hb : RdRow w a2 (boolRow b)) :
    Calls Try.prog 7 #[.slice a0 a.length c0, .slice a1 s.length c1, .slice a2 b.length c2] w fun e w' => e = .returned (.bool true) ∧ Fr w w' := by
  by_cases hsm : a.length ≤ 100 ∧ s.length ≤ 100 ∧ b.length ≤ 100
  · exact pack_writes_small a0 a1 a2 c0 c1 c2 a s b w ha hs hb ia hsm.1 hsm.2.1 hsm.2.2 is isz
  · clear ha hb hs ia is isz
    unfold maxLen at ma mb ms
    go_enter Try.func7, Try.ntmps7
    go_wp2_with fail
    refine (pack_alive _).mono ?_
    rintro e w1 ⟨rfl, hf1⟩
    by_cases la : a.length ≤ 100 <;> by_cases ls : s.length ≤ 100 <;> by_cases lb : b.length ≤ 100 <;>
      first
      | exact (hsm ⟨la, ls, lb⟩).elim
      | (clear hsm
         go_wp2_with fail
         go_ret
         exact ⟨rfl, hf1⟩)

end Go.Proofs.Ytkifcmlehiidiaa
