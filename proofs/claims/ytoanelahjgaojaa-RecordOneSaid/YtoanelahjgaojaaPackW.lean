/- The walks of pack.Writer: Int, Str, Bool. -/
import Derived.Test.YtoanelahjgaojaaPackB
import Derived.Test.YtoanelahjgaojaaPackPure
import Derived.Test.YtoanelahjgaojaaOpen
namespace Go.Proofs.Ytoanelahjgaojaa
open Go.RowKit
set_option linter.unusedVariables false
set_option maxRecDepth 100000

set_option maxHeartbeats 400000 in
theorem pack_zig (n : Int) (w : World) (h1 : -9223372036854775808 ≤ n) (h2 : n ≤ 9223372036854775807) :
    Calls Try.prog 60 #[.int .i64 n] w fun e w' => e = .returned (.int .u64 (zig n : Nat)) ∧ w = w' := by
  have HZ := Lib.hid (zig_go n h1 h2)
  clear h1 h2
  go_enter Try.func60, Try.ntmps60
  go_wp2
  go_ret
  exact ⟨ret_int HZ.out, rfl⟩

theorem u8_back (n : Nat) (h : n < 256) : (UInt8.ofNat n).toNat = n := by simp; omega
theorem writeByteN (g : Nat) (bs : List UInt8) (n : Nat) (S : Nat → Prop) (w : World) (h : IsW g bs S w) (hn : n < 256) (hlen : bs.length + 1 ≤ 140737488355328) :
    Calls Try.prog 61 #[.pointer (some ⟨g, 0, none⟩), .int .u8 (n : Int)] w fun e w' => e = .returned .nilIface ∧ Upd S (IsW g (bs ++ [UInt8.ofNat n])) w w' := by
  have := writeByte g bs (UInt8.ofNat n) S w h hlen
  rw [u8_back n hn] at this
  exact this

theorem encIs_take (ns : List Int) (k : Nat) (h : k < ns.length) : encIs (ns.take (k + 1)) = encIs (ns.take k) ++ encI ns[k] := by
  rw [List.take_succ_eq_append_getElem h, encIs_append, encIs_one]

set_option maxHeartbeats 1000000 in
set_option maxRecDepth 100000 in
theorem writer_int (g : Nat) (bs : List UInt8) (S : Nat → Prop) (a : Option Addr) (cap : Nat) (ns : List Int) (w : World) (h : IsW g bs S w)
    (hr : RdRow w a (intRow ns)) (hd : ∀ b o, a = some ⟨b, o, none⟩ → ns ≠ [] → ¬ S b) (hn : ∀ n ∈ ns, -9223372036854775808 ≤ n ∧ n ≤ 9223372036854775807)
    (hlen : bs.length + 10 * ns.length ≤ 140737488355328) :
    Calls Try.prog 36 #[.pointer (some ⟨g, 0, none⟩), .slice a ns.length cap] w fun e w' => e = .returned (.tuple #[]) ∧ Upd S (IsW g (bs ++ encIs ns)) w w' := by
  have HR := Lib.hid hr
  have HD := Lib.hid hd
  have HN := Lib.hid hn
  have HU := Lib.hid (show Upd S (IsW g (bs ++ encIs (ns.take 0))) w w from Upd.refl (by simpa [encIs] using h))
  clear hr hd hn h
  have hnl : ns.length ≤ 9223372036854775807 := by omega
  go_enter Try.func36, Try.ntmps36
  go_wp2
  go_loopw [9] (fun i wr => ∃ k : Nat, k ≤ ns.length ∧ i = .int .i64 k ∧ Hid (Upd S (IsW g (bs ++ encIs (ns.take k))) w wr)) (fun i _ => (ns.length - intOf i).toNat)
  case atStart => exact ⟨0, by omega, rfl, HU⟩
  case round =>
    obtain ⟨k, hk, rfl, hu⟩ := hrel
    clear HU
    by_cases hlt : k < ns.length
    · have HT := Lib.hid (encIs_take ns k hlt)
      have hb1 := HN.out ns[k] (List.getElem_mem hlt)
      have hel : (encIs (ns.take k)).length ≤ 10 * k := by
        have := encIs_len (ns.take k) (fun n hn => HN.out n (List.mem_of_mem_take hn))
        rw [List.length_take, Nat.min_eq_left hk] at this
        exact this
      obtain ⟨b, o, rfl, hc⟩ := HR.out.at (i := k) (v := .int .i64 ns[k]) (by simp [intRow, hlt])
      have hnS := HD.out b o rfl (fun e => by simp [e] at hlt)
      have hc2 : wr.cell? ⟨b, o + k, none⟩ = some (.int .i64 ns[k]) := by
        rw [World.cell?_of_block (w := w) (hu.out.step.block b (World.block_lt_of_cell? w _ hc) hnS)]
        exact hc
      clear hc hnS
      generalize hx : ns[k] = x at *
      clear hx
      have hzl := encI_len hb1.1 hb1.2
      go_wp2_with fail
      refine (pack_zig x _ hb1.1 hb1.2).mono ?_
      rintro e w1 ⟨rfl, rfl⟩
      go_wp2
      go_loopw [6] (fun u wq => ∃ (y : Nat) (cs : List UInt8), Hid (y < 18446744073709551616) ∧ u = .int .u64 y ∧ Hid (cs ++ varint y = bs ++ encIs (ns.take (k + 1))) ∧ Hid (Upd S (IsW g cs) w wq)) (fun u _ => (intOf u).toNat)
      case atStart => exact ⟨zig x, _, zig_lt hb1.1 hb1.2, rfl, by rw [HT.out, List.append_assoc]; rfl, hu⟩
      case round =>
        obtain ⟨y, cs, hy, rfl, heq, hq⟩ := hrel
        clear hu hc2
        obtain ⟨Sq, hWq, hstq, hsubq⟩ := hq.out
        have HWQ := Lib.hid hWq
        have hcl : cs.length + (varint y).length ≤ 140737488355328 := by
          have := congrArg List.length heq.out
          rw [HT.out] at this
          simp only [List.length_append] at this
          have h2 : (encI x).length ≤ 10 := hzl
          omega
        have hvp := varint_pos y
        have HY := hy
        have HB1 := Lib.hid hb1
        clear hWq hb1
        by_cases hbig : 128 ≤ y
        · have hl7 := low7 y
          have HVB := Lib.hid (varint_big hbig)
          go_wp2_with fail
          refine (writeByteN g cs (y % 128 + 128) Sq _ HWQ.out (by omega) (by omega)).mono ?_
          rintro e w2 ⟨rfl, hu2⟩
          have HU2 := Lib.hid hu2
          clear hu2
          go_wp2
          go_roundw
          case rel =>
            refine ⟨y / 128, cs ++ [UInt8.ofNat (y % 128 + 128)], Lib.hid (Nat.lt_of_le_of_lt (Nat.div_le_self _ _) HY.out), by go_num, ?_, ?_⟩
            · show _ = _
              rw [← heq.out, HVB.out]
              simp
            · exact hq.out.trans' HWQ.out hstq hsubq HU2.out
          case measure => simp [intOf]; omega
        · have HVS := Lib.hid (varint_small (u := y) (by omega))
          have hm : (y : Int) % 256 = y := by omega
          go_wp2_with fail
          refine (writeByteN g cs y Sq _ HWQ.out (by omega) (by omega)).mono ?_
          rintro e w2 ⟨rfl, hu2⟩
          have HU2 := Lib.hid hu2
          clear hu2
          go_wp2
          go_roundw
          case rel =>
            refine ⟨k + 1, by omega, by go_num, ?_⟩
            have : cs ++ [UInt8.ofNat y] = bs ++ encIs (ns.take (k + 1)) := by rw [← heq.out, HVS.out]
            rw [← this]
            exact hq.out.trans' HWQ.out hstq hsubq HU2.out
          case measure => simp [intOf]; omega
    · obtain rfl : k = ns.length := by omega
      go_wp2
      go_end0
      exact ⟨rfl, by have := hu.out; rwa [List.take_length] at this⟩

def lists (l : List ByteArray) : List (List UInt8) := l.map fun s => s.data.toList
theorem encSs_take (l : List ByteArray) (k : Nat) (h : k < l.length) : encSs (lists (l.take (k + 1))) = encSs (lists (l.take k)) ++ encS l[k].data.toList := by
  rw [List.take_succ_eq_append_getElem h]; simp only [lists, encSs, List.map_append, List.map_cons, List.map_nil, List.flatMap_append, List.flatMap_cons, List.flatMap_nil, List.append_nil]
theorem encBs_take (l : List Bool) (k : Nat) (h : k < l.length) : encBs (l.take (k + 1)) = encBs (l.take k) ++ encB l[k] := by
  rw [List.take_succ_eq_append_getElem h]; simp only [encBs, List.flatMap_append, List.flatMap_cons, List.flatMap_nil, List.append_nil]
def bytesIn (l : List ByteArray) : Nat := (l.map fun s => s.size).sum
theorem encSs_len : ∀ (l : List ByteArray), (∀ s ∈ l, s.size ≤ 9223372036854775807) → (encSs (lists l)).length ≤ 10 * l.length + bytesIn l
  | [], _ => by simp [encSs, lists]
  | s :: l, h => by
    have h1 := h s (List.mem_cons_self ..)
    have h2 := encSs_len l (fun m hm => h m (List.mem_cons_of_mem _ hm))
    have h3 := encI_len (n := (s.size : Int)) (by omega) (by omega)
    simp only [encSs, lists, bytesIn, List.map_cons, List.flatMap_cons, List.length_append, List.length_cons, List.sum_cons, encS, ba_len] at h2 ⊢
    omega
theorem bytesIn_append (a b : List ByteArray) : bytesIn (a ++ b) = bytesIn a + bytesIn b := by simp [bytesIn]
theorem bytesIn_take (l : List ByteArray) (k : Nat) (h : k < l.length) : bytesIn (l.take k) + l[k].size ≤ bytesIn l := by
  have h1 : bytesIn l = bytesIn (l.take (k + 1)) + bytesIn (l.drop (k + 1)) := by rw [← bytesIn_append, List.take_append_drop]
  rw [List.take_succ_eq_append_getElem h, bytesIn_append] at h1
  simp [bytesIn] at h1 ⊢
  omega

/-- A new block beside a writer. -/
theorem IsW.notIn {g : Nat} {bs : List UInt8} {S : Nat → Prop} {w : World} (h : IsW g bs S w) : ¬ S w.heap.size := fun hk => by
  have := (IsW.local g bs).lt _ _ _ h hk
  omega
theorem IsW.alloc {g : Nat} {bs : List UInt8} {S : Nat → Prop} {w : World} (h : IsW g bs S w) (o : Obj) : IsW g bs S (w.alloc o) :=
  (IsW.local g bs).keep _ _ _ h (fun k hk => ((Fr.refl w).alloc o).block k ((IsW.local g bs).lt _ _ _ h hk))

/-- One number, as the code hands it over: a new row of one. -/
theorem writer_int1 (g : Nat) (bs : List UInt8) (S : Nat → Prop) (n : Int) (w : World) (h : IsW g bs S w) (hn : -9223372036854775808 ≤ n ∧ n ≤ 9223372036854775807) (hlen : bs.length + 10 ≤ 140737488355328) :
    Calls Try.prog 36 #[.pointer (some ⟨g, 0, none⟩), .slice (some ⟨w.heap.size, 0, none⟩) 1 1] (w.alloc (.cells #[.int .i64 n] 3)) fun e w' => e = .returned (.tuple #[]) ∧ Upd S (IsW g (bs ++ encI n)) w w' := by
  have := writer_int g bs S (some ⟨w.heap.size, 0, none⟩) 1 [n] (w.alloc (.cells #[.int .i64 n] 3)) (h.alloc _) (.inr ⟨_, _, rfl, fun i v hv => by
    match i, hv with
    | 0, hv => simp [intRow] at hv; subst hv; simp⟩) (fun b o e _ => by injection e with e; injection e with e; subst e; exact h.notIn) (by simpa using hn) (by simpa using hlen)
  refine this.mono ?_
  rintro e w' ⟨rfl, hu⟩
  rw [encIs_one] at hu
  obtain ⟨S', h1, h2, h3⟩ := hu
  exact ⟨rfl, S', h1, (Step.of_fr ((Fr.refl w).alloc _)).trans h2 (fun i hi => .inl hi), fun k hk => (h3 k hk).imp id (fun h => by simp at h; omega)⟩

set_option maxHeartbeats 1000000 in
set_option maxRecDepth 100000 in
theorem writer_str (g : Nat) (bs : List UInt8) (S : Nat → Prop) (a : Option Addr) (cap : Nat) (l : List ByteArray) (w : World) (h : IsW g bs S w)
    (hr : RdRow w a (strRow l)) (hd : ∀ b o, a = some ⟨b, o, none⟩ → l ≠ [] → ¬ S b)
    (hsz : ∀ s ∈ l, s.size ≤ 9223372036854775807) (hlen : bs.length + 10 * l.length + bytesIn l ≤ 140737488355328) :
    Calls Try.prog 37 #[.pointer (some ⟨g, 0, none⟩), .slice a l.length cap] w fun e w' => e = .returned (.tuple #[]) ∧ Upd S (IsW g (bs ++ encSs (lists l))) w w' := by
  have HR := Lib.hid hr
  have HD := Lib.hid hd
  have HU := Lib.hid (show Upd S (IsW g (bs ++ encSs (lists (l.take 0)))) w w from Upd.refl (by simpa [encSs, lists] using h))
  have HL := Lib.hid hlen
  have HZ := Lib.hid hsz
  clear hr hd h hsz
  have hnl : l.length ≤ 9223372036854775807 := by omega
  clear hlen
  go_enter Try.func37, Try.ntmps37
  go_wp2
  go_loopw [8] (fun i wr => ∃ k : Nat, k ≤ l.length ∧ i = .int .i64 k ∧ Hid (Upd S (IsW g (bs ++ encSs (lists (l.take k)))) w wr)) (fun i _ => (l.length - intOf i).toNat)
  case atStart => exact ⟨0, by omega, rfl, HU⟩
  case round =>
    obtain ⟨k, hk, rfl, hu⟩ := hrel
    clear HU
    by_cases hlt : k < l.length
    · have HT := Lib.hid (encSs_take l k hlt)
      obtain ⟨b, o, rfl, hc⟩ := HR.out.at (i := k) (v := .string l[k]) (by simp [strRow, hlt])
      have hnS := HD.out b o rfl (fun e => by simp [e] at hlt)
      have hc2 : wr.cell? ⟨b, o + k, none⟩ = some (.string l[k]) := by
        rw [World.cell?_of_block (w := w) (hu.out.step.block b (World.block_lt_of_cell? w _ hc) hnS)]
        exact hc
      have hbd : (bs ++ encSs (lists (l.take k))).length + 10 + l[k].size ≤ 140737488355328 := by
        have e1 := encSs_len (l.take k) (fun s hs => HZ.out s (List.mem_of_mem_take hs))
        have e2 := bytesIn_take l k hlt
        have e3 := HL.out
        rw [List.length_take, Nat.min_eq_left hk] at e1
        rw [List.length_append]
        omega
      have hsz : l[k].size ≤ 9223372036854775807 := by omega
      clear hc hnS
      generalize hx : l[k] = x at *
      clear hx
      obtain ⟨Sq, hWq, hstq, hsubq⟩ := hu.out
      have HWQ := Lib.hid hWq
      clear hWq
      go_wp2_with fail
      refine (writer_int1 g _ Sq x.size _ HWQ.out (by omega) (by omega)).mono ?_
      rintro e w2 ⟨rfl, hu2⟩
      obtain ⟨S2, hW2, hst2, hsub2⟩ := hu2
      have HW2 := Lib.hid hW2
      have hel := encI_len (n := (x.size : Int)) (by omega) (by omega)
      clear hW2
      go_wp2_with fail
      refine (writeString g _ x S2 _ HW2.out (by rw [List.length_append]; omega)).mono ?_
      rintro e w3 ⟨rfl, hu3⟩
      have HU3 := Lib.hid hu3
      clear hu3
      go_wp2
      go_roundw
      case rel =>
        refine ⟨k + 1, by omega, by go_num, ?_⟩
        have e4 : bs ++ encSs (lists (l.take k)) ++ encI x.size ++ x.data.toList = bs ++ encSs (lists (l.take (k + 1))) := by
          rw [HT.out, encS, ba_len]; simp only [List.append_assoc]
        have h3 := HU3.out
        rw [e4] at h3
        exact hu.out.trans' HWQ.out hstq hsubq (Upd.trans' ⟨S2, HW2.out, hst2, hsub2⟩ HW2.out hst2 hsub2 h3)
      case measure => simp [intOf]; omega
    · obtain rfl : k = l.length := by omega
      go_wp2
      go_end0
      exact ⟨rfl, by have := hu.out; rwa [List.take_length] at this⟩

theorem encB_len (b : Bool) : (encB b).length ≤ 10 := encI_len (by cases b <;> decide) (by cases b <;> decide)
theorem encBs_len : ∀ (l : List Bool), (encBs l).length ≤ 10 * l.length
  | [] => by simp [encBs]
  | b :: l => by
    have h1 := encB_len b
    have h2 := encBs_len l
    simp only [encBs, List.flatMap_cons, List.length_append, List.length_cons] at h2 ⊢
    omega
set_option maxHeartbeats 1000000 in
set_option maxRecDepth 100000 in
theorem writer_bool (g : Nat) (bs : List UInt8) (S : Nat → Prop) (a : Option Addr) (cap : Nat) (l : List Bool) (w : World) (h : IsW g bs S w)
    (hr : RdRow w a (boolRow l)) (hd : ∀ b o, a = some ⟨b, o, none⟩ → l ≠ [] → ¬ S b) (hlen : bs.length + 10 * l.length ≤ 140737488355328) :
    Calls Try.prog 38 #[.pointer (some ⟨g, 0, none⟩), .slice a l.length cap] w fun e w' => e = .returned (.tuple #[]) ∧ Upd S (IsW g (bs ++ encBs l)) w w' := by
  have HR := Lib.hid hr
  have HD := Lib.hid hd
  have HU := Lib.hid (show Upd S (IsW g (bs ++ encBs (l.take 0))) w w from Upd.refl (by simpa [encBs] using h))
  have HL := Lib.hid hlen
  clear hr hd h
  have hnl : l.length ≤ 9223372036854775807 := by omega
  clear hlen
  go_enter Try.func38, Try.ntmps38
  go_wp2
  go_loopw [9] (fun i wr => ∃ k : Nat, k ≤ l.length ∧ i = .int .i64 k ∧ Hid (Upd S (IsW g (bs ++ encBs (l.take k))) w wr)) (fun i _ => (l.length - intOf i).toNat)
  case atStart => exact ⟨0, by omega, rfl, HU⟩
  case round =>
    obtain ⟨k, hk, rfl, hu⟩ := hrel
    clear HU
    by_cases hlt : k < l.length
    · have HT := Lib.hid (encBs_take l k hlt)
      obtain ⟨b, o, rfl, hc⟩ := HR.out.at (i := k) (v := .bool l[k]) (by simp [boolRow, hlt])
      have hnS := HD.out b o rfl (fun e => by simp [e] at hlt)
      have hc2 : wr.cell? ⟨b, o + k, none⟩ = some (.bool l[k]) := by
        rw [World.cell?_of_block (w := w) (hu.out.step.block b (World.block_lt_of_cell? w _ hc) hnS)]
        exact hc
      have hbd : (bs ++ encBs (l.take k)).length + 10 ≤ 140737488355328 := by
        have e1 := encBs_len (l.take k)
        have e3 := HL.out
        rw [List.length_take, Nat.min_eq_left hk] at e1
        rw [List.length_append]
        omega
      clear hc hnS
      generalize hx : l[k] = x at *
      clear hx
      obtain ⟨Sq, hWq, hstq, hsubq⟩ := hu.out
      have HWQ := Lib.hid hWq
      clear hWq
      cases x
      · go_wp2_with fail
        refine (writer_int1 g _ Sq 0 _ HWQ.out (by omega) hbd).mono ?_
        rintro e w2 ⟨rfl, hu2⟩
        have HU2 := Lib.hid hu2
        clear hu2
        go_wp2
        go_roundw
        case rel =>
          refine ⟨k + 1, by omega, by go_num, ?_⟩
          have h3 := HU2.out
          rw [List.append_assoc, show encBs (l.take k) ++ encI 0 = encBs (l.take (k + 1)) from HT.out.symm] at h3
          exact hu.out.trans' HWQ.out hstq hsubq h3
        case measure => simp [intOf]; omega
      · go_wp2_with fail
        refine (writer_int1 g _ Sq 1 _ HWQ.out (by omega) hbd).mono ?_
        rintro e w2 ⟨rfl, hu2⟩
        have HU2 := Lib.hid hu2
        clear hu2
        go_wp2
        go_roundw
        case rel =>
          refine ⟨k + 1, by omega, by go_num, ?_⟩
          have h3 := HU2.out
          rw [List.append_assoc, show encBs (l.take k) ++ encI 1 = encBs (l.take (k + 1)) from HT.out.symm] at h3
          exact hu.out.trans' HWQ.out hstq hsubq h3
        case measure => simp [intOf]; omega
    · obtain rfl : k = l.length := by omega
      go_wp2
      go_end0
      exact ⟨rfl, by have := hu.out; rwa [List.take_length] at this⟩

end Go.Proofs.Ytoanelahjgaojaa
