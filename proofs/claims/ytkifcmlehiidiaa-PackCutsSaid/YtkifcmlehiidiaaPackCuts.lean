/- The walk of PackCuts. -/
import Derived.Test.YtkifcmlehiidiaaPackBack
namespace Go.Proofs.Ytkifcmlehiidiaa
open Go.RowKit
set_option linter.unusedVariables false

theorem decI_short {n : Int} (h1 : -9223372036854775808 ≤ n) (h2 : n ≤ 9223372036854775807) {m : Nat} (hm : m < (encI n).length) : decI ((encI n).take m) = none := by
  cases hd : decI ((encI n).take m) with
  | none => rfl
  | some q =>
    obtain ⟨n', k⟩ := q
    obtain ⟨rest, e1, e2, e3, e4⟩ := decI_put hd
    have f1 := decI_enc h1 h2 []
    have e5 : encI n ++ [] = encI n' ++ (rest ++ (encI n).drop m) := by
      rw [List.append_nil, ← List.append_assoc, ← e1, List.take_append_drop]
    rw [e5, decI_enc e3 e4] at f1
    have f2 : (encI n').length = (encI n).length := by injection f1 with f1; exact (Prod.mk.inj f1).2
    have f3 := congrArg List.length e1
    rw [List.length_take, List.length_append] at f3
    omega
theorem rI_cut {full R : List UInt8} {p c : Nat} {n : Int} (h1 : -9223372036854775808 ≤ n) (h2 : n ≤ 9223372036854775807) (h : full.drop p = encI n ++ R) (hp : p ≤ c) (hc : c ≤ full.length) :
    (p + (encI n).length ≤ c ∧ rI (full.take c) (some p) = (n, some (p + (encI n).length))) ∨ (c < p + (encI n).length ∧ rI (full.take c) (some p) = (0, none)) := by
  have hd : (full.take c).drop p = (encI n ++ R).take (c - p) := by rw [List.drop_take, h]
  rcases Nat.lt_or_ge c (p + (encI n).length) with hlt | hge
  · right
    refine ⟨hlt, ?_⟩
    rw [List.take_append_of_le_length (by omega)] at hd
    unfold rI
    simp only [hd, decI_short h1 h2 (m := c - p) (by omega)]
  · left
    refine ⟨hge, rI_at h1 h2 (R := R.take (c - p - (encI n).length)) ?_⟩
    rw [hd, List.take_append, List.take_of_length_le (by omega)]

/-- Where the reader of a beginning stands. -/
def cutInv (full : List UInt8) (c : Nat) (rest : List Int) (st : Option Nat) : Prop :=
  (∃ p, st = some p ∧ p ≤ c ∧ full.drop p = encIs rest) ∨ (st = none ∧ c < full.length)
theorem cutInv_step {full : List UInt8} {c : Nat} {n : Int} {rest : List Int} {st : Option Nat} (hc : c ≤ full.length) (h1 : -9223372036854775808 ≤ n ∧ n ≤ 9223372036854775807) (h : cutInv full c (n :: rest) st) :
    cutInv full c rest (rI (full.take c) st).2 ∧ ((rI (full.take c) st).1 = n ∨ ((rI (full.take c) st).1 = 0 ∧ (rI (full.take c) st).2 = none)) := by
  rcases h with ⟨p, rfl, hp, hd⟩ | ⟨rfl, hlt⟩
  · have hd2 : full.drop p = encI n ++ encIs rest := hd
    rcases rI_cut h1.1 h1.2 hd2 hp hc with ⟨hle, e⟩ | ⟨hlt, e⟩
    · rw [e]
      exact ⟨.inl ⟨_, rfl, hle, drop_next hd2⟩, .inl rfl⟩
    · rw [e]
      have := drop_len hd2 (by omega)
      exact ⟨.inr ⟨rfl, by omega⟩, .inr ⟨rfl, rfl⟩⟩
  · exact ⟨.inr ⟨rfl, hlt⟩, .inr ⟨rfl, rfl⟩⟩
theorem cutInv_end {full : List UInt8} {c : Nat} {st : Option Nat} (hc : c ≤ full.length) (h : cutInv full c [] st) : (rEnd (full.take c) st = 0 ∧ c = full.length) ∨ (rEnd (full.take c) st = 4 ∧ c < full.length) := by
  rcases h with ⟨p, rfl, hp, hd⟩ | ⟨rfl, hlt⟩
  · have h2 : full.length ≤ p := List.drop_eq_nil_iff.mp hd
    have e : c = full.length := by omega
    refine .inl ⟨?_, e⟩
    unfold rEnd
    rw [if_pos (by rw [List.length_take, Nat.min_eq_left hc]; congr 1; omega)]
  · exact .inr ⟨rfl, hlt⟩

set_option maxHeartbeats 4000000 in
set_option maxRecDepth 100000 in
theorem pack_cuts_small (a0 : Option Addr) (c0 : Nat) (a : List Int) (cut : Int) (w : World)
    (ha : RdRow w a0 (intRow a)) (ia : inI64 a) (la : a.length ≤ 40) (hcut : -9223372036854775808 ≤ cut ∧ cut ≤ 9223372036854775807) :
    Calls Try.prog 8 #[.slice a0 a.length c0, .int .i64 cut] w fun e w' => e = .returned (.bool true) ∧ Fr w w' := by
  have HA := Lib.hid ha
  have HIA := Lib.hid ia
  clear ha ia
  go_enter Try.func8, Try.ntmps8
  go_wp2_with fail
  refine (pack_alive _).mono ?_
  rintro e w1 ⟨rfl, hf1⟩
  have HF1 := Lib.hid hf1
  have HU1 := Lib.hid (oneNew w1)
  clear hf1
  go_wp2
  generalize hgw : w1.heap.size = gw at *
  go_loopg [6, 8, 9, 23] a.length (fun gh s6 _ _ si wr => ∃ (k : Nat) (al : ByteArray), k ≤ a.length ∧ gh = a.length - k ∧ si = .int .i64 k ∧ s6 = .string al ∧ Hid (al.data.toList = encIs (a.take k)) ∧ Hid (Upd (fun _ => False) (Sep [IsW gw (encIs (a.take k))]) w1 wr))
  case atStart => exact ⟨0, _, by omega, by omega, rfl, rfl, rfl, HU1.out⟩
  case round =>
    obtain ⟨k, al, hk, rfl, rfl, rfl, hal, hu⟩ := hrel
    clear HU1
    have hasz : al.size ≤ 400 := by
      have h1 := congrArg List.length hal.out
      have h2 := encIs_len (a.take k) (fun n hn => HIA.out n (List.mem_of_mem_take hn))
      rw [List.length_take, Nat.min_eq_left hk] at h2
      rw [ba_len] at h1
      omega
    by_cases hlt : k < a.length
    · obtain ⟨ba, oa, rfl, hca⟩ := (HA.out.fr (HF1.out.trans hu.out.fr)).at (i := k) (v := .int .i64 a[k]) (by simp [intRow, hlt])
      have HTK := Lib.hid (encIs_take a k hlt)
      have hn := HIA.out a[k] (List.getElem_mem hlt)
      have hbl : (encIs (a.take k)).length ≤ 400 := by rw [← hal.out, ba_len]; exact hasz
      generalize hx : a[k] = x at *
      clear hx
      have hxl := encI_len hn.1 hn.2
      have HN := Lib.hid hn
      clear hn
      go_wp2_with fail
      obtain ⟨S1, hW, hS1, hup⟩ := hu.out.one
      refine (writer_int1 _ _ S1 x _ hW HN.out (by omega)).mono ?_
      rintro e w2 ⟨rfl, hq⟩
      have HU2 := Lib.hid (hup _ _ hq)
      clear hq hup hS1 hW hu
      have HU3 := Lib.hid (HU2.out.new (by simp [IsW.local]) ((Fr.refl _).alloc (.cells #[.pointer none, .slice none 0 0] 42)) _ (IsW.new w2) (fun k h => by omega))
      clear HU2
      have hsz : (w2.alloc (.cells #[.pointer none, .slice none 0 0] 42)).heap.size = w2.heap.size + 1 := by simp
      have HSZ := Lib.hid hsz
      clear hsz
      go_wp2_with fail
      obtain ⟨S1, hW, hS1, hup⟩ := HU3.out.callAt [] (by simp [IsW.local])
      have hcall := writer_int1 w2.heap.size [] S1 x _ hW HN.out (by simp)
      rw [HSZ.out, List.nil_append] at hcall
      refine hcall.mono ?_
      clear hcall
      rintro e w3 ⟨rfl, hq⟩
      have HU4 := Lib.hid (hup _ _ hq)
      clear hq hup hS1 hW HU3
      go_wp2_with fail
      obtain ⟨S1, hW, hS1, hup⟩ := HU4.out.callAt [] (by simp [IsW.local])
      obtain ⟨y, hy⟩ : ∃ y : ByteArray, y = ⟨(encI x).toArray⟩ := ⟨_, rfl⟩
      have hyl : y.size ≤ 10 := by
        have : y.data.toList.length = (encI x).length := by rw [hy]
        rw [ba_len] at this
        omega
      have HY := Lib.hid (show y.data.toList = encI x by rw [hy])
      refine (writer_bytes _ _ S1 _ (IsWF.of hW)).mono ?_
      rintro e w4 ⟨rfl, hq⟩
      rw [← hy]
      have HU5 := Lib.hid (hup _ _ hq).drop
      clear hq hup hS1 hW HU4 hy
      go_wp2
      go_roundg (a.length - (k + 1))
      case measure => omega
      case rel =>
        refine ⟨k + 1, _, by omega, rfl, by go_num, rfl, ?_, ?_⟩
        · show _ = _
          rw [HTK.out, ba_append, hal.out, HY.out]
        · show Upd _ _ _ _
          rw [HTK.out]
          exact HU5.out
    · obtain rfl : k = a.length := by omega
      have hal2 : al.data.toList = encIs a := by have := hal.out; rwa [List.take_length] at this
      have HAL := Lib.hid hal2
      have hu2 := hu.out
      rw [List.take_length] at hu2
      have HU2 := Lib.hid hu2
      have HE := Lib.hid (show (⟨(encIs a).toArray⟩ : ByteArray) = al from ba_ext (by rw [HAL.out]))
      clear hal hu hal2 hu2
      go_wp2_with fail
      obtain ⟨S1, hW, hS1, hup⟩ := HU2.out.one
      refine (writer_bytes _ _ S1 _ (IsWF.of hW)).mono ?_
      rintro e w2 ⟨rfl, hq⟩
      rw [HE.out]
      have HFW := Lib.hid (HF1.out.trans (hup _ _ hq).fr)
      clear hq hup hS1 hW HU2 HE HF1
      by_cases hneg : cut < 0
      · go_wp2
        go_ret
        exact ⟨rfl, HFW.out⟩
      · obtain ⟨c, rfl⟩ := Int.eq_ofNat_of_zero_le (show 0 ≤ cut by omega)
        by_cases hbig : al.size < c
        · go_wp2
          go_ret
          exact ⟨rfl, HFW.out⟩
        · have hcle : c ≤ al.size := by omega
          go_wp2_with fail
          refine (pack_open _ _).mono ?_
          rintro e w6 ⟨rfl, hf6, hI⟩
          obtain ⟨g, hg⟩ : ∃ g, g = w2.heap.size := ⟨_, rfl⟩
          rw [← hg] at hI ⊢
          obtain ⟨x, hx⟩ : ∃ x, x = al.extract 0 c := ⟨_, rfl⟩
          rw [← hx] at hI
          have HX := Lib.hid (show x.data.toList = (encIs a).take c by rw [hx, ba_head, HAL.out])
          have hxs : x.size ≤ 9223372036854775000 := by
            have h := congrArg List.length HX.out
            rw [List.length_take, ba_len] at h
            omega
          have HLEN := Lib.hid (show al.size = (encIs a).length by rw [← HAL.out, ba_len])
          have HU6 := Lib.hid (upd_open (w := w) (HFW.out.trans hf6) hI (fun k hk => by rw [hk, hg]; exact HFW.out.size))
          have HC0 := Lib.hid (show cutInv (encIs a) c (a.drop 0) (some 0) from .inl ⟨0, rfl, by omega, rfl⟩)
          have HCL := Lib.hid (show c ≤ (encIs a).length by rw [← HLEN.out]; exact hcle)
          clear hg hI hf6 HFW hx
          go_wp2
          go_loopg [12, 13, 60] a.length (fun gh _ _ si wr => ∃ (k : Nat) (st : Option Nat), k ≤ a.length ∧ gh = a.length - k ∧ si = .int .i64 k ∧ Hid (cutInv (encIs a) c (a.drop k) st) ∧ Hid (Upd (fun _ => False) (IsR g x st) w wr))
          case atStart => exact ⟨0, some 0, by omega, by omega, rfl, HC0.out, HU6.out⟩
          case round =>
            obtain ⟨k, st, hk, rfl, rfl, hci, hu⟩ := hrel
            clear HU6 HC0
            by_cases hlt : k < a.length
            · obtain ⟨ba, oa, rfl, hca⟩ := (HA.out.fr hu.out.fr).at (i := k) (v := .int .i64 a[k]) (by simp [intRow, hlt])
              have hci2 := hci.out
              rw [List.drop_eq_getElem_cons hlt] at hci2
              have hst := cutInv_step HCL.out (HIA.out a[k] (List.getElem_mem hlt)) hci2
              rw [← HX.out] at hst
              obtain ⟨hnext, hval⟩ := hst
              have HNEXT := Lib.hid hnext
              clear hci hci2 hnext
              generalize hy : a[k] = y at *
              clear hy
              have HVAL := Lib.hid hval
              clear hval
              go_wp2_with fail
              obtain ⟨S1, hI, hs1, hsub⟩ := hu.out
              refine (reader_int g x st S1 _ hI hxs).mono ?_
              rintro e wn ⟨rfl, hn⟩
              have HN := Lib.hid (Upd.trans' hu.out hI hs1 hsub hn)
              clear hn hI hs1 hsub
              generalize rI x.data.toList st = r at *
              obtain ⟨v, st2⟩ := r
              have HN2 : Hid (Upd (fun _ => False) (IsR g x st2) w wn) := HN
              have HNX2 : Hid (cutInv (encIs a) c (a.drop (k + 1)) st2) := HNEXT
              clear HN HNEXT
              have hv : v = y ∨ (v = 0 ∧ st2 = none) := HVAL.out
              clear HVAL
              by_cases hvy : v = y
              · subst hvy
                clear hv
                go_wp2
                go_roundg (a.length - (k + 1))
                case measure => omega
                case rel => exact ⟨k + 1, st2, by omega, rfl, by go_num, HNX2, HN2⟩
              · obtain ⟨rfl, rfl⟩ := hv.resolve_left hvy
                clear hv
                go_wp2_with fail
                obtain ⟨S1, hI, hs1, hsub⟩ := HN2.out
                refine (reader_end g x none S1 _ hI hxs).mono ?_
                rintro e we ⟨rfl, hn⟩
                have HE := Lib.hid (Upd.trans' HN2.out hI hs1 hsub (hI.upd hn))
                rw [show rEnd x.data.toList none = 4 from rfl]
                clear hn hI hs1 hsub HN2
                go_wp2
                go_roundg (a.length - (k + 1))
                case measure => omega
                case rel => exact ⟨k + 1, none, by omega, rfl, by go_num, HNX2, HE⟩
            · obtain rfl : k = a.length := by omega
              have hci2 := hci.out
              rw [List.drop_length] at hci2
              have hend := cutInv_end HCL.out hci2
              rw [← HX.out, ← HLEN.out] at hend
              have HEND := Lib.hid hend
              clear hci hci2 hend
              go_wp2_with fail
              obtain ⟨S1, hI, hs1, hsub⟩ := hu.out
              refine (reader_end g x st S1 _ hI hxs).mono ?_
              rintro e we ⟨rfl, hn⟩
              have HF := Lib.hid (hu.out.fr.trans hn)
              clear hn hI hs1 hsub hu
              rcases HEND.out with ⟨h1, h2⟩ | ⟨h1, h2⟩
              · rw [h1]
                clear h1 HEND
                subst h2
                go_wp2
                go_ret
                exact ⟨by simp, HF.out⟩
              · rw [h1]
                clear h1 HEND
                have h3 : ((c : Int) == (al.size : Int)) = false := by simp; omega
                go_wp2
                go_ret
                exact ⟨by simp, HF.out⟩

set_option maxHeartbeats 4000000 in
set_option maxRecDepth 100000 in
theorem pack_cuts_row (w : World) (a0 : Option Addr) (c0 : Nat) (a : List Int) (ma : a.length ≤ maxLen) (ha : RdRow w a0 (intRow a)) (ia : inI64 a)
    (cut : Int) (hc : (Lit.int .i64 cut).wf = true) :
    Calls Try.prog 8 #[.slice a0 a.length c0, .int .i64 cut] w fun e w' => e = .returned (.bool true) ∧ Fr w w' := by
  by_cases hsm : a.length ≤ 40
  · exact pack_cuts_small a0 c0 a cut w ha ia hsm (wf_i64 hc)
  · clear ha ia hc
    unfold maxLen at ma
    go_enter Try.func8, Try.ntmps8
    go_wp2_with fail
    refine (pack_alive _).mono ?_
    rintro e w1 ⟨rfl, hf1⟩
    go_wp2_with fail
    go_ret
    exact ⟨rfl, hf1⟩

end Go.Proofs.Ytkifcmlehiidiaa
