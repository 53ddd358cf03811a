/- The walk of CrcBits. -/
import Derived.Test.YtkifcmlehiidiaaCrcLaws2
import Derived.Test.YtkifcmlehiidiaaCrcLin
import Derived.Lib.ConvBytes
import Derived.Laws.Rows
import Derived.Lib.Builder
namespace Go.Proofs.Ytkifcmlehiidiaa
open Go.RowKit
set_option linter.unusedVariables false

/-- Block B holds these bytes ahead of its mark. -/
def BRow (E : TypeId) (w : World) (B : Nat) (bs : List UInt8) : Prop :=
  ∃ cur lo hi, w.heap[B]? = some (.cells cur E (lo, hi)) ∧ bs.length ≤ lo ∧ bs.length ≤ cur.size ∧ cur.toList.take bs.length = bs.map fun c => Value.int .u8 c.toNat
theorem BRow.new (E : TypeId) (w : World) (s : ByteArray) : BRow E (Lib.bytesWorld w E s) w.heap.size s.data.toList := by
  refine ⟨_, _, _, Lib.bytesWorld_at_new w E s, ?_, ?_, ?_⟩
  · simp [Lib.bytesCells]
  · simp [Lib.bytesCells]
  · simp [Lib.bytesCells]
theorem BRow.cell {E : TypeId} {w : World} {B : Nat} {bs : List UInt8} (h : BRow E w B bs) (i : Nat) (hi : i < bs.length) : w.cell? ⟨B, i, none⟩ = some (.int .u8 bs[i].toNat) := by
  obtain ⟨cur, lo, hi', h1, h2, h3, h4⟩ := h
  have e : w.cell? ⟨B, i, none⟩ = cur[i]? := by simp [World.cell?, h1]
  rw [e]
  have h5 : (cur.toList.take bs.length)[i]? = some (.int .u8 bs[i].toNat) := by rw [h4]; simp [hi]
  rw [List.getElem?_take_of_lt hi] at h5
  rw [← Array.getElem?_toList]
  exact h5
theorem BRow.free {E : TypeId} {w : World} {B : Nat} {bs : List UInt8} (h : BRow E w B bs) (i : Nat) (hi : i < bs.length) : w.frozen? ⟨B, i, none⟩ = false := by
  obtain ⟨cur, lo, hi', h1, h2, h3, h4⟩ := h
  simp [World.frozen?, h1]
  omega
theorem BRow.keep {E : TypeId} {w w' : World} {B : Nat} {bs : List UInt8} (h : BRow E w B bs) (hk : w'.heap[B]? = w.heap[B]?) : BRow E w' B bs := by
  obtain ⟨cur, lo, hi', h1, h2⟩ := h
  exact ⟨cur, lo, hi', hk.trans h1, h2⟩
theorem BRow.set {E : TypeId} {w : World} {B : Nat} {bs : List UInt8} (h : BRow E w B bs) (i : Nat) (x : UInt8) : BRow E (w.setCell ⟨B, i, none⟩ (.int .u8 x.toNat)) B (bs.set i x) := by
  obtain ⟨cur, lo, hi', h1, h2, h3, h4⟩ := h
  refine ⟨cur.setIfInBounds i (.int .u8 x.toNat), lo, hi', ?_, by simpa using h2, by simpa using h3, ?_⟩
  · simp [World.setCell, Array.getElem?_modify, h1]
  · rw [List.length_set, Array.toList_setIfInBounds, List.take_set, h4, List.map_set]
theorem BRow.lt {E : TypeId} {w : World} {B : Nat} {bs : List UInt8} (h : BRow E w B bs) : B < w.heap.size := by
  obtain ⟨cur, lo, hi', h1, _⟩ := h
  rcases Nat.lt_or_ge B w.heap.size with h' | h'
  · exact h'
  · simp [Array.getElem?_eq_none h'] at h1

/-- Which bit is meant. -/
def bitOf (x : Int) (n : Nat) : Nat := (x % 18446744073709551616).toNat % (8 * n)
theorem turnBits_len : ∀ (l : List Nat) (t : List UInt8), (l.foldl turnBit t).length = t.length
  | [], t => rfl
  | a :: l, t => by rw [List.foldl_cons, turnBits_len l, turnBit_len]
theorem turnBit_set (t : List UInt8) (k : Nat) (h : k / 8 < t.length) : turnBit t k = t.set (k / 8) (t[k / 8] ^^^ UInt8.ofNat (2 ^ (k % 8))) := by
  unfold turnBit
  apply List.ext_getElem?
  intro i
  rw [List.getElem?_modify, List.getElem?_set]
  by_cases e : k / 8 = i
  · subst e
    simp [h]
  · simp [e]
theorem turn_go (x : UInt8) (k : Nat) : bits .xor .u8 (x.toNat : Int) ((2 : Int) ^ (k % 8) % 256) = ((x ^^^ UInt8.ofNat (2 ^ (k % 8))).toNat : Int) := by
  have h := pow_lt8 k
  have e : (2 : Int) ^ (k % 8) = ((2 ^ (k % 8) : Nat) : Int) := by rw [Int.natCast_pow]; rfl
  rw [e]
  generalize 2 ^ (k % 8) = p at h ⊢
  rw [Int.emod_eq_of_lt (by omega) (by omega), xor_ofNat x h]
  exact u8_xor_nat _ _ x.toNat_lt h
theorem nodup_snoc (l : List Nat) (a : Nat) (h : l.Nodup) (ha : a ∉ l) : (l ++ [a]).Nodup := by
  rw [List.nodup_append]
  exact ⟨h, by simp, fun x hx y hy => by simp at hy; subst hy; exact fun e => ha (e ▸ hx)⟩
theorem fr_bytes (w : World) (E : TypeId) (s : ByteArray) : Fr w (Lib.bytesWorld w E s) := by
  exact ⟨by simp only [Lib.bytesWorld, World.freeze]; rfl, by simp only [Lib.bytesWorld, World.freeze]; rfl, by simp only [Lib.bytesWorld, World.freeze]; rfl, by rw [Lib.bytesWorld_size]; omega, fun k hk => Lib.bytesWorld_at_old w E s k hk⟩
theorem bit_go (x : Int) (n : Nat) (h : n ≤ 400) : wrap64 ((IntKind.u64.wrap x).tmod (8 * (↑n + 4))) = ((bitOf x (n + 4) : Nat) : Int) := by
  have hw : ∀ m, IntKind.u64.wrap m = m % 18446744073709551616 := fun m => by simp [IntKind.wrap, IntKind.bits, IntKind.signed]
  have h0 : 0 ≤ x % 18446744073709551616 := Int.emod_nonneg _ (by decide)
  rw [hw, Int.tmod_eq_emod_of_nonneg h0]
  obtain ⟨y, hy⟩ := Int.eq_ofNat_of_zero_le h0
  unfold bitOf
  rw [hy, Int.toNat_natCast]
  have e : ((y : Int) % (8 * (↑n + 4))) = ((y % (8 * (n + 4)) : Nat) : Int) := by simp
  have hlt : y % (8 * (n + 4)) < 8 * (n + 4) := Nat.mod_lt _ (by omega)
  rw [e]
  exact IntWalk.wrap64_in _ ⟨by omega, by omega⟩

set_option maxHeartbeats 1000000 in
set_option maxRecDepth 100000 in
theorem crc_bits (s : ByteArray) (a b c many : Int) (w : World) (hs : s.size ≤ 400) (h1 : 1 ≤ many) (h3 : many ≤ 3) :
    Calls Try.prog 5 #[.string s, .int .i64 a, .int .i64 b, .int .i64 c, .int .i64 many] w fun e w' => e = .returned (.bool true) ∧ Below w.heap.size w w' := by
  have hT : ∀ c, (crcTail c).length = 4 := fun _ => rfl
  have hz := crcSum_size s (by omega)
  have hs2 : s.size ≤ 9223372036854775807 := by omega
  have hcv := fun (w : World) (s : ByteArray) => Lib.run_convert_string_bytes (P := Try.prog) w 9 31 5 s Try.underlying9 Try.underlying31 Try.underlying5
  go_enter Try.func5, Try.ntmps5
  go_wp2_with fail
  refine (crc_alive _).mono ?_
  rintro e w1 ⟨rfl, hb⟩
  go_wp2_with fail
  refine (crc_of1 s _ _ (by unfold maxLen; omega) (by simp)).mono ?_
  rintro e w2 ⟨rfl, rfl⟩
  go_wp2_with fail
  refine (crc_tail _ _ (crcOf_lt _)).mono ?_
  rintro e w2 ⟨rfl, hb2⟩
  go_wp2_with fail
  have hrow := BRow.new 5 w2 (s ++ ⟨(crcTail (crcOf s.data.toList)).toArray⟩)
  have hfr := fr_bytes w2 5 (s ++ ⟨(crcTail (crcOf s.data.toList)).toArray⟩)
  have hsz := hfr.size
  have hB := hrow.lt
  have hF : Fr w w2 := (hb.alloc hb.size _).trans (Below.mono hb2 (by have := hb.size; simp; omega))
  generalize Lib.bytesWorld w2 _ (s ++ _) = W0 at hrow hfr hsz hB ⊢
  rw [ba_append] at hrow
  obtain ⟨T, hTd⟩ : ∃ T, s.data.toList ++ (⟨(crcTail (crcOf s.data.toList)).toArray⟩ : ByteArray).data.toList = T := ⟨_, rfl⟩
  have hTl : T.length = s.size + 4 := by rw [← hTd]; simp [hT]
  have hTg : crcGood T = true := by rw [← hTd]; exact crcGood_append _
  rw [hTd] at hrow
  obtain ⟨m, rfl⟩ := Int.eq_ofNat_of_zero_le (show 0 ≤ many by omega)
  obtain ⟨ks, hks⟩ : ∃ ks, [bitOf a (s.size + 4), bitOf b (s.size + 4), bitOf c (s.size + 4)] = ks := ⟨_, rfl⟩
  have hksl : ks.length = 3 := by rw [← hks]; rfl
  have hk1 : ∀ k ∈ ks, k < 8 * (s.size + 4) := by
    rw [← hks]
    intro k hk
    simp only [List.mem_cons, List.not_mem_nil, or_false] at hk
    rcases hk with rfl | rfl | rfl <;> exact Nat.mod_lt _ (by omega)
  have harr : (W0.alloc (Obj.cells #[Value.int IntKind.i64 a, Value.int IntKind.i64 b, Value.int IntKind.i64 c] 32)).heap[W0.heap.size]? = some (Obj.cells #[Value.int IntKind.i64 a, Value.int IntKind.i64 b, Value.int IntKind.i64 c] 32) := heap_alloc_new W0 _
  have hF1 : Fr w (W0.alloc (Obj.cells #[Value.int IntKind.i64 a, Value.int IntKind.i64 b, Value.int IntKind.i64 c] 32)) := (hF.trans hfr).alloc _
  have hrow1 : BRow 5 (W0.alloc (Obj.cells #[Value.int IntKind.i64 a, Value.int IntKind.i64 b, Value.int IntKind.i64 c] 32)) w2.heap.size T := hrow.keep (Lib.alloc_old W0 _ _ hB)
  have hcells : ∀ k, k < 3 → ∃ x : Int, (#[Value.int IntKind.i64 a, Value.int IntKind.i64 b, Value.int IntKind.i64 c] : Array Value)[k]? = some (.int .i64 x) ∧ ks[k]? = some (bitOf x (s.size + 4)) := by
    intro k hk
    rw [← hks]
    obtain rfl | rfl | rfl : k = 0 ∨ k = 1 ∨ k = 2 := by omega
    · exact ⟨a, rfl, rfl⟩
    · exact ⟨b, rfl, rfl⟩
    · exact ⟨c, rfl, rfl⟩
  have HT := Lib.hid hTl
  have HG := Lib.hid hTg
  have HK := Lib.hid hksl
  have HK1 := Lib.hid hk1
  have HC := Lib.hid hcells
  have HA := Lib.hid harr
  have HR := Lib.hid hrow1
  have HF := Lib.hid hF1
  have HW : Hid (w.heap.size ≤ w2.heap.size) := hF.size
  clear hTl hTg hksl hk1 hcells harr hrow1 hF1 hrow hfr hb hb2 hF hks hTd hz
  go_loopw [13] (fun i wr => ∃ k : Nat, k ≤ m ∧ i = .int .i64 k ∧ Hid (BRow 5 wr w2.heap.size ((ks.take k).foldl turnBit T)) ∧ Hid (wr.heap[W0.heap.size]? = some (Obj.cells #[Value.int IntKind.i64 a, Value.int IntKind.i64 b, Value.int IntKind.i64 c] 32)) ∧ Hid (Fr w wr) ∧ Hid ((ks.take k).Nodup)) (fun i _ => (m - intOf i).toNat)
  case atStart => exact ⟨0, by omega, rfl, HR.out, HA.out, HF.out, (by simp : ([] : List Nat).Nodup)⟩
  case round =>
    obtain ⟨k, hk, rfl, hrow, harr, hfr, hnd⟩ := hrel
    by_cases hlt : k < m
    · obtain ⟨x, hx1, hx2⟩ := HC.out k (by omega)
      have hcell : wr.cell? ⟨W0.heap.size, k, none⟩ = some (.int .i64 x) := by rw [← hx1]; simp [World.cell?, harr.out]
      have HX2 := Lib.hid hx2
      clear hx1 hx2
      have hbx := bit_go x s.size hs
      have hbl : bitOf x (s.size + 4) < 8 * (s.size + 4) := Nat.mod_lt _ (by omega)
      obtain ⟨kb, hkb⟩ : ∃ kb, bitOf x (s.size + 4) = kb := ⟨_, rfl⟩
      rw [hkb] at hbx hbl HX2
      clear hkb
      go_wp2_with fail
      rw [hbx]
      clear hcell hbx
      go_loop [15] (fun j => ∃ q : Nat, q ≤ k ∧ j = .int .i64 q ∧ Hid (∀ p, p < q → ks[p]? ≠ some kb)) (fun j => (k - intOf j).toNat)
      case atStart => exact ⟨0, by omega, rfl, fun p hp => absurd hp (by omega)⟩
      case round =>
        obtain ⟨q, hq, rfl, hne⟩ := hrel
        by_cases hqk : q < k
        · obtain ⟨y, hy1, hy2⟩ := HC.out q (by omega)
          have hcell : wr.cell? ⟨W0.heap.size, q, none⟩ = some (.int .i64 y) := by rw [← hy1]; simp [World.cell?, harr.out]
          have hby := bit_go y s.size hs
          have HY2 := Lib.hid hy2
          clear hy1 hy2
          by_cases heq : bitOf y (s.size + 4) = kb
          · have he : (((bitOf y (s.size + 4) : Nat) : Int) == (kb : Int)) = true := by rw [heq]; simp
            clear heq HY2
            go_wp2
            go_ret
            exact ⟨rfl, hfr.out⟩
          · have he : (((bitOf y (s.size + 4) : Nat) : Int) == (kb : Int)) = false := by rw [beq_eq_false_iff_ne]; omega
            have HE := Lib.hid heq
            clear heq
            go_wp2
            go_round
            case rel =>
              refine ⟨q + 1, by omega, by go_num, fun p hp => ?_⟩
              by_cases hpq : p = q
              · subst hpq
                rw [HY2.out]
                intro h
                injection h with h
                exact HE.out h
              · exact hne.out p (by omega)
            case measure => simp [intOf]; omega
        · obtain rfl : q = k := by omega
          obtain ⟨T1, hT1⟩ : ∃ T1, (ks.take q).foldl turnBit T = T1 := ⟨_, rfl⟩
          have hTl : T1.length = s.size + 4 := by rw [← hT1, ← HT.out]; exact turnBits_len _ _
          have hrow' := hrow.out
          rw [hT1] at hrow'
          have hcell := hrow'.cell (kb / 8) (by omega)
          have hfree := hrow'.free (kb / 8) (by omega)
          have HC1 : Hid (turnBit T1 kb = T1.set (kb / 8) (T1[kb / 8] ^^^ UInt8.ofNat (2 ^ (kb % 8)))) := turnBit_set T1 kb (by omega)
          have HR1 := Lib.hid hrow'
          have HT1 := Lib.hid hT1
          clear hrow' hT1
          generalize T1[kb / 8] = x0 at hcell HC1
          clear hTl
          go_wp2_with fail
          go_roundw
          case rel =>
            have hkl : ks.take (q + 1) = ks.take q ++ [kb] := by
              rw [List.take_add_one, HX2.out]; rfl
            refine ⟨q + 1, by omega, by go_num, ?_, ?_, ?_, ?_⟩
            · rw [turn_go, hkl, List.foldl_append, HT1.out]
              show BRow _ _ _ (turnBit T1 kb)
              rw [HC1.out]
              exact HR1.out.set _ _
            · exact (Below.heap_setCell _ _ _ _ (by show W0.heap.size ≠ w2.heap.size; omega)).trans harr.out
            · exact hfr.out.setCell HW.out _
            · rw [hkl]
              refine nodup_snoc _ _ hnd.out (fun hm => ?_)
              obtain ⟨p, hp, hpe⟩ := List.getElem_of_mem hm
              rw [List.length_take] at hp
              refine hne.out p (by omega) ?_
              rw [List.getElem_take] at hpe
              rw [← hpe]
              exact List.getElem?_eq_getElem _
          case measure => simp [intOf]; omega
    · obtain rfl : k = m := by omega
      obtain ⟨T', hT'⟩ : ∃ T', (ks.take k).foldl turnBit T = T' := ⟨_, rfl⟩
      have hbits := crc_turned T (ks.take k) (by rw [HT.out]; omega) (by rw [HT.out]; omega) HG.out (fun q hq => by rw [HT.out]; exact HK1.out q (List.mem_of_mem_take hq)) hnd.out (by rw [List.length_take, HK.out]; omega) (by rw [List.length_take, HK.out]; omega)
      have hTl : T'.length = s.size + 4 := by
        rw [← hT', ← HT.out]
        exact turnBits_len _ _
      have hrow' := hrow.out
      rw [hT'] at hbits hrow'
      have hcv2 := run_convert_bytes_arg (P := Try.prog) wr 31 5 Try.underlying31 Try.underlying5 w2.heap.size 0 (s.size + 4) (grownCap w2 (s.size + 4) 0 5) (T'.map fun c => (c.toNat : Int)) (by rw [List.length_map, hTl]) (fun i hi => by
        rw [Nat.zero_add, hrow'.cell i (by omega), List.getD_eq_getElem?_getD, List.getElem?_map, List.getElem?_eq_getElem (by omega)]
        rfl) 9 Try.underlying9
      have hst : strOfNums (T'.map fun c => (c.toNat : Int)) = ⟨T'.toArray⟩ := by
        apply ba_ext
        rw [strOfNums_data, List.map_map]
        show List.map _ T' = T'
        have : ∀ l : List UInt8, l.map ((fun n : Int => UInt8.ofNat n.toNat) ∘ fun c : UInt8 => (c.toNat : Int)) = l := fun l => by
          induction l with
          | nil => rfl
          | cons a l ih => rw [List.map_cons, ih]; congr 1; show UInt8.ofNat ((a.toNat : Int).toNat) = a; rw [Int.toNat_natCast]; simp
        exact this T'
      rw [hst] at hcv2
      have hsz2 : (⟨T'.toArray⟩ : ByteArray).size = s.size + 4 := by show T'.toArray.size = _; rw [List.size_toArray, hTl]
      have HB := Lib.hid hbits
      have HS2 := Lib.hid hsz2
      clear hbits hrow' hst hsz2 hTl hT'
      go_wp2_with fail
      refine (crc_check_any _ _ (by rw [HS2.out]; unfold maxLen; omega)).mono ?_
      rintro e w3 ⟨rfl, hb3⟩
      have HB2 := Lib.hid (show crcGood (⟨T'.toArray⟩ : ByteArray).data.toList = false from HB.out)
      rw [HB2.out]
      go_wp2
      go_ret
      exact ⟨rfl, hfr.out.trans hb3⟩

set_option maxHeartbeats 1000000 in
set_option maxRecDepth 100000 in
theorem crc_bits_row (s : ByteArray) (hs : s.size ≤ 140737488351232) (a : Int) (ha : (Lit.int .i64 a).wf = true) (b : Int) (hb : (Lit.int .i64 b).wf = true) (c : Int) (hc : (Lit.int .i64 c).wf = true) (many : Int) (hm : (Lit.int .i64 many).wf = true) (w : World) :
    Calls Try.prog 5 #[.string s, .int .i64 a, .int .i64 b, .int .i64 c, .int .i64 many] w fun e w' => e = .returned (.bool true) ∧ Below w.heap.size w w' := by
  by_cases h : s.size ≤ 400 ∧ 1 ≤ many ∧ many ≤ 3
  · exact crc_bits s a b c many w h.1 h.2.1 h.2.2
  · have hcase : (400 < s.size) ∨ (s.size ≤ 400 ∧ many < 1) ∨ (s.size ≤ 400 ∧ 1 ≤ many ∧ 3 < many) := by omega
    clear h ha hb hc hm
    rcases hcase with h | ⟨h, h2⟩ | ⟨h, h2, h3⟩
    all_goals
      go_enter Try.func5, Try.ntmps5
      go_wp2_with fail
      refine (crc_alive _).mono ?_
      rintro e w1 ⟨rfl, hb⟩
      go_wp2
      go_ret
      exact ⟨rfl, hb⟩

end Go.Proofs.Ytkifcmlehiidiaa
