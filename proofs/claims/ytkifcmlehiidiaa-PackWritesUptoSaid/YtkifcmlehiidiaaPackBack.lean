/- The walk of PackBack. -/
import Derived.Test.YtkifcmlehiidiaaPackAt
import Derived.Test.YtkifcmlehiidiaaPackOne
namespace Go.Proofs.Ytkifcmlehiidiaa
open Go.RowKit
set_option linter.unusedVariables false

theorem oneNew (w : World) : Upd (fun _ => False) (Sep [IsW w.heap.size []]) w (w.alloc (.cells #[.pointer none, .slice none 0 0] 42)) := by
  have h1 := (Upd.start w).new (by simp) ((Fr.refl _).alloc _) _ (IsW.new w) (fun k h => by omega)
  exact h1
theorem Upd.one {S0 : Nat → Prop} {A : Asr} {w0 w : World} (hU : Upd S0 (Sep [A]) w0 w) :
    ∃ S1, A S1 w ∧ (∀ k, S1 k → S0 k ∨ w0.heap.size ≤ k) ∧ ∀ A' w', Upd S1 A' w w' → Upd S0 (Sep [A']) w0 w' := hU.callAt [] (by simp)
theorem upd_open {A : Asr} {w w' : World} {S : Nat → Prop} (hf : Fr w w') (h : A S w') (hS : ∀ k, S k → w.heap.size ≤ k) : Upd (fun _ => False) A w w' :=
  ⟨S, h, Step.of_fr hf, fun k hk => .inr (hS k hk)⟩
theorem encIs_cons (n : Int) (l : List Int) : encIs (n :: l) = encI n ++ encIs l := rfl
theorem encSs_drop {l : List ByteArray} {k : Nat} (h : k < l.length) : encSs (lists (l.drop k)) = encS l[k].data.toList ++ encSs (lists (l.drop (k + 1))) := by
  rw [List.drop_eq_getElem_cons h]; rfl
theorem encIs_drop {l : List Int} {k : Nat} (h : k < l.length) : encIs (l.drop k) = encI l[k] ++ encIs (l.drop (k + 1)) := by
  rw [List.drop_eq_getElem_cons h]; rfl
theorem encBs_drop {l : List Bool} {k : Nat} (h : k < l.length) : encBs (l.drop k) = encB l[k] ++ encBs (l.drop (k + 1)) := by
  rw [List.drop_eq_getElem_cons h]; rfl

set_option maxHeartbeats 4000000 in
set_option maxRecDepth 100000 in
theorem pack_back_small (a0 a1 a2 : Option Addr) (c0 c1 c2 : Nat) (a : List Int) (s : List ByteArray) (b : List Bool) (w : World)
    (ha : RdRow w a0 (intRow a)) (hs : RdRow w a1 (strRow s)) (hb : RdRow w a2 (boolRow b))
    (ia : inI64 a) (la : a.length ≤ 60) (ls : s.length ≤ 60) (lb : b.length ≤ 60) :
    Calls Try.prog 10 #[.slice a0 a.length c0, .slice a1 s.length c1, .slice a2 b.length c2] w fun e w' => e = .returned (.bool true) ∧ Fr w w' := by
  have HA := Lib.hid ha
  have HB := Lib.hid hb
  have HS := Lib.hid hs
  have HIA := Lib.hid ia
  clear ha hb hs ia
  go_enter Try.func10, Try.ntmps10
  go_wp2_with fail
  refine (pack_alive _).mono ?_
  rintro e w1 ⟨rfl, hf1⟩
  have HF1 := Lib.hid hf1
  have HU1 := Lib.hid (oneNew w1)
  clear hf1
  go_wp2
  go_loopg [9, 36] s.length (fun g _ si wr => (w1.alloc (.cells #[.pointer none, .slice none 0 0] 42)) = wr ∧ ∃ k : Nat, k ≤ s.length ∧ g = s.length - k ∧ si = .int .i64 k ∧ Hid (∀ x ∈ s.take k, x.size ≤ 4096))
  case atStart => exact ⟨rfl, 0, by omega, by omega, rfl, by intro x hx; simp at hx⟩
  case round =>
    obtain ⟨rfl, k, hk, rfl, rfl, hall⟩ := hrel
    by_cases hlt : k < s.length
    · obtain ⟨ba, oa, rfl, hca⟩ := (HS.out.fr (HF1.out.trans HU1.out.fr)).at (i := k) (v := .string s[k]) (by simp [strRow, hlt])
      have HTK := Lib.hid (List.take_succ_eq_append_getElem hlt)
      generalize hx : s[k] = x at *
      clear hx
      by_cases hbig : x.size ≤ 4096
      · go_wp2
        go_roundg (s.length - (k + 1))
        case measure => omega
        case rel =>
          refine ⟨rfl, k + 1, by omega, rfl, by go_num, ?_⟩
          intro y hy
          rw [HTK.out] at hy
          rcases List.mem_append.mp hy with h | h
          · exact hall.out y h
          · rw [List.mem_singleton.mp h]; exact hbig
      · go_wp2
        go_ret
        exact ⟨rfl, HF1.out.trans HU1.out.fr⟩
    · obtain rfl : k = s.length := by omega
      have HALL := Lib.hid (show ∀ x ∈ s, x.size ≤ 4096 by have := hall.out; rwa [List.take_length] at this)
      clear hall
      have hbs := bytesIn_le s HALL.out
      go_wp2_with fail
      obtain ⟨S1, hW, hS1, hup⟩ := HU1.out.one
      refine (writer_str _ [] S1 a1 c1 s _ hW (HS.out.fr (HF1.out.trans HU1.out.fr)) (fun b o e hn => apartRow hS1 HS.out HF1.out b o e (by simpa [strRow] using hn)) (fun x hx => by have := HALL.out x hx; omega) (by simp; omega)).mono ?_
      rintro e w2 ⟨rfl, hu⟩
      have HU2 := Lib.hid (hup _ _ hu)
      clear hu hup hS1 hW HU1
      rw [List.nil_append] at HU2
      have l1 := encSs_len s (fun x hx => by have := HALL.out x hx; omega)
      have l2 := encIs_len a HIA.out
      have l3 := encBs_len b
      obtain ⟨gw, hgw⟩ : ∃ g, g = w1.heap.size := ⟨_, rfl⟩
      rw [← hgw] at HU2 ⊢
      have HGW := Lib.hid hgw
      clear hgw
      go_wp2_with fail
      obtain ⟨S1, hW, hS1, hup⟩ := HU2.out.one
      refine (writer_int _ _ S1 a0 c0 a _ hW (HA.out.fr (HF1.out.trans HU2.out.fr)) (fun b o e hn => apartRow hS1 HA.out HF1.out b o e (by simpa [intRow] using hn)) HIA.out (by omega)).mono ?_
      rintro e w3 ⟨rfl, hu⟩
      have HU3 := Lib.hid (hup _ _ hu)
      clear hu hup hS1 hW HU2
      go_wp2_with fail
      obtain ⟨S1, hW, hS1, hup⟩ := HU3.out.one
      refine (writer_bool _ _ S1 a2 c2 b _ hW (HB.out.fr (HF1.out.trans HU3.out.fr)) (fun b o e hn => apartRow hS1 HB.out HF1.out b o e (by simpa [boolRow] using hn)) (by rw [List.length_append]; omega)).mono ?_
      rintro e w4 ⟨rfl, hu⟩
      have HU4 := Lib.hid (hup _ _ hu)
      clear hu hup hS1 hW HU3
      go_wp2_with fail
      obtain ⟨S1, hW, hS1, hup⟩ := HU4.out.one
      obtain ⟨x, hx⟩ : ∃ x : ByteArray, x = ⟨(encSs (lists s) ++ encIs a ++ encBs b).toArray⟩ := ⟨_, rfl⟩
      refine (writer_bytes _ _ S1 _ (IsWF.of hW)).mono ?_
      rintro e w5 ⟨rfl, hu⟩
      rw [← hx]
      have HF5 := Lib.hid (HF1.out.trans (hup _ _ hu).fr)
      clear hu hup hS1 hW HU4 HF1
      have hxs : x.size ≤ 9223372036854775000 := by
        have : x.data.toList.length = (encSs (lists s) ++ encIs a ++ encBs b).length := by rw [hx]
        rw [List.length_append, List.length_append, ba_len] at this
        omega
      have HX := Lib.hid (show x.data.toList.drop 0 = encSs (lists (s.drop 0)) ++ (encIs a ++ encBs b) by rw [hx]; simp)
      clear hx l1 l2 l3 hbs
      go_wp2_with fail
      refine (pack_open _ _).mono ?_
      rintro e w6 ⟨rfl, hf6, hI⟩
      obtain ⟨g, hg⟩ : ∃ g, g = w5.heap.size := ⟨_, rfl⟩
      rw [← hg] at hI ⊢
      have HU6 := Lib.hid (upd_open (w := w) (HF5.out.trans hf6) hI (fun k hk => by rw [hk, hg]; exact HF5.out.size))
      clear hg hI hf6 HF5 HGW
      go_wp2
      go_loopg [12, 58] s.length (fun gh _ si wr => ∃ k p : Nat, k ≤ s.length ∧ gh = s.length - k ∧ si = .int .i64 k ∧ Hid (x.data.toList.drop p = encSs (lists (s.drop k)) ++ (encIs a ++ encBs b)) ∧ Hid (Upd (fun _ => False) (IsR g x (some p)) w wr))
      case atStart => exact ⟨0, 0, by omega, by omega, rfl, HX.out, HU6.out⟩
      case round =>
        obtain ⟨k, p, hk, rfl, rfl, hdr, hu⟩ := hrel
        by_cases hlt : k < s.length
        · obtain ⟨ba, oa, rfl, hca⟩ := (HS.out.fr hu.out.fr).at (i := k) (v := .string s[k]) (by simp [strRow, hlt])
          have hdr2 := hdr.out
          rw [encSs_drop hlt, List.append_assoc] at hdr2
          have HD2 := Lib.hid hdr2
          clear hdr hdr2
          have hy2 : s[k].size ≤ 9223372036854775807 := by have := HALL.out s[k] (List.getElem_mem hlt); omega
          generalize hy : s[k] = y at *
          clear hy
          go_wp2_with fail
          obtain ⟨S1, hI, hst, hsub⟩ := hu.out
          refine (reader_str_at g x p y _ S1 _ hI hxs HD2.out hy2).mono ?_
          rintro e wn ⟨rfl, hn⟩
          have HN := Lib.hid (Upd.trans' hu.out hI hst hsub hn)
          clear hn hI hst hsub
          go_wp2
          go_roundg (s.length - (k + 1))
          case measure => omega
          case rel => exact ⟨k + 1, _, by omega, rfl, by go_num, drop_next HD2.out, HN.out⟩
        · obtain rfl : k = s.length := by omega
          have HD2 := Lib.hid (show x.data.toList.drop p = (encIs a ++ encBs b) by have := hdr.out; rw [List.drop_length] at this; exact this)
          have HQ := Lib.hid hu.out
          clear hdr hu
          go_wp2
          go_loopg [14, 69] a.length (fun gh _ si wr => ∃ k p : Nat, k ≤ a.length ∧ gh = a.length - k ∧ si = .int .i64 k ∧ Hid (x.data.toList.drop p = encIs (a.drop k) ++ (encBs b)) ∧ Hid (Upd (fun _ => False) (IsR g x (some p)) w wr))
          case atStart => exact ⟨0, p, by omega, by omega, rfl, HD2.out, HQ.out⟩
          case round =>
            obtain ⟨k, p, hk, rfl, rfl, hdr, hu⟩ := hrel
            by_cases hlt : k < a.length
            · obtain ⟨ba, oa, rfl, hca⟩ := (HA.out.fr hu.out.fr).at (i := k) (v := .int .i64 a[k]) (by simp [intRow, hlt])
              have hdr2 := hdr.out
              rw [encIs_drop hlt, List.append_assoc] at hdr2
              have HD2 := Lib.hid hdr2
              clear hdr hdr2
              have hy2 := HIA.out a[k] (List.getElem_mem hlt)
              generalize hy : a[k] = y at *
              clear hy
              go_wp2_with fail
              obtain ⟨S1, hI, hst, hsub⟩ := hu.out
              refine (reader_int_at g x p y _ S1 _ hI hxs HD2.out hy2).mono ?_
              rintro e wn ⟨rfl, hn⟩
              have HN := Lib.hid (Upd.trans' hu.out hI hst hsub hn)
              clear hn hI hst hsub
              go_wp2
              go_roundg (a.length - (k + 1))
              case measure => omega
              case rel => exact ⟨k + 1, _, by omega, rfl, by go_num, drop_next HD2.out, HN.out⟩
            · obtain rfl : k = a.length := by omega
              have HD2 := Lib.hid (show x.data.toList.drop p = (encBs b) by have := hdr.out; rw [List.drop_length] at this; exact this)
              have HQ := Lib.hid hu.out
              clear hdr hu
              go_wp2
              go_loopg [16, 80] b.length (fun gh _ si wr => ∃ k p : Nat, k ≤ b.length ∧ gh = b.length - k ∧ si = .int .i64 k ∧ Hid (x.data.toList.drop p = encBs (b.drop k) ++ []) ∧ Hid (Upd (fun _ => False) (IsR g x (some p)) w wr))
              case atStart => exact ⟨0, p, by omega, by omega, rfl, by rw [List.append_nil]; exact HD2.out, HQ.out⟩
              case round =>
                obtain ⟨k, p, hk, rfl, rfl, hdr, hu⟩ := hrel
                by_cases hlt : k < b.length
                · obtain ⟨ba, oa, rfl, hca⟩ := (HB.out.fr hu.out.fr).at (i := k) (v := .bool b[k]) (by simp [boolRow, hlt])
                  have hdr2 := hdr.out
                  rw [encBs_drop hlt, List.append_assoc] at hdr2
                  have HD2 := Lib.hid hdr2
                  clear hdr hdr2
                  generalize hy : b[k] = y at *
                  clear hy
                  go_wp2_with fail
                  obtain ⟨S1, hI, hst, hsub⟩ := hu.out
                  refine (reader_bool_at g x p y _ S1 _ hI hxs HD2.out).mono ?_
                  rintro e wn ⟨rfl, hn⟩
                  have HN := Lib.hid (Upd.trans' hu.out hI hst hsub hn)
                  clear hn hI hst hsub
                  go_wp2
                  go_roundg (b.length - (k + 1))
                  case measure => omega
                  case rel => exact ⟨k + 1, _, by omega, rfl, by go_num, drop_next HD2.out, HN.out⟩
                · obtain rfl : k = b.length := by omega
                  have HD2 := Lib.hid (show x.data.toList.drop p = [] by have := hdr.out; rw [List.drop_length] at this; exact this)
                  have HQ := Lib.hid hu.out
                  clear hdr hu
                  go_wp2_with fail
                  obtain ⟨S1, hI, _, _⟩ := HQ.out
                  refine (reader_end_at g x p S1 _ hI hxs HD2.out).mono ?_
                  rintro e wn ⟨rfl, hn⟩
                  have HN := Lib.hid (HQ.out.fr.trans hn)
                  clear hn hI
                  go_wp2
                  go_ret
                  exact ⟨rfl, HN.out⟩

set_option maxHeartbeats 4000000 in
set_option maxRecDepth 100000 in
theorem pack_back_row (w : World) (a0 : Option Addr) (c0 : Nat) (a : List Int) (ma : a.length ≤ maxLen) (ha : RdRow w a0 (intRow a)) (ia : inI64 a)
    (a1 : Option Addr) (c1 : Nat) (s : List ByteArray) (ms : s.length ≤ maxLen) (hs : RdRow w a1 (strRow s)) (is : ∀ x ∈ s, x.size ≤ maxLen)
    (a2 : Option Addr) (c2 : Nat) (b : List Bool) (mb : b.length ≤ maxLen) (hb : RdRow w a2 (boolRow b)) :
    Calls Try.prog 10 #[.slice a0 a.length c0, .slice a1 s.length c1, .slice a2 b.length c2] w fun e w' => e = .returned (.bool true) ∧ Fr w w' := by
  by_cases hsm : a.length ≤ 60 ∧ s.length ≤ 60 ∧ b.length ≤ 60
  · exact pack_back_small a0 a1 a2 c0 c1 c2 a s b w ha hs hb ia hsm.1 hsm.2.1 hsm.2.2
  · clear ha hb hs ia is
    unfold maxLen at ma mb ms
    go_enter Try.func10, Try.ntmps10
    go_wp2_with fail
    refine (pack_alive _).mono ?_
    rintro e w1 ⟨rfl, hf1⟩
    by_cases la : a.length ≤ 60 <;> by_cases ls : s.length ≤ 60 <;> by_cases lb : b.length ≤ 60 <;>
      first
      | exact (hsm ⟨la, ls, lb⟩).elim
      | (clear hsm
         go_wp2_with fail
         go_ret
         exact ⟨rfl, hf1⟩)

end Go.Proofs.Ytkifcmlehiidiaa
