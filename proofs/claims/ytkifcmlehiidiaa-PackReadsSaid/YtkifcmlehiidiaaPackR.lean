/- The walks of pack.Reader. -/
import Derived.Test.YtkifcmlehiidiaaProg
import Derived.Test.YtkifcmlehiidiaaPackDec
import Derived.Test.YtkifcmlehiidiaaSep
namespace Go.Proofs.Ytkifcmlehiidiaa
open Go.RowKit
set_option linter.unusedVariables false

/-- A reader in block g: of which bytes, and where it stands; none: behind a fault. -/
def IsR (g : Nat) (s : ByteArray) (st : Option Nat) : Asr := fun S w => ∃ at_ : Int, w.heap[g]? = some (.cells #[.string s, .int .i64 at_, .bool st.isNone] 73 (0, 0)) ∧
  (∀ a, st = some a → at_ = a ∧ a ≤ s.size) ∧ (∀ k, S k ↔ k = g)
theorem lt_of_heap {w : World} {g : Nat} {o : Obj} (h : w.heap[g]? = some o) : g < w.heap.size := by
  rcases Nat.lt_or_ge g w.heap.size with h' | h'
  · exact h'
  · simp [Array.getElem?_eq_none h'] at h
theorem IsR.local (g : Nat) (s : ByteArray) (st : Option Nat) : LocalA (IsR g s st) := by
  refine ⟨?_, ?_⟩
  · rintro S w w' ⟨a, h1, h2, h3⟩ hk
    exact ⟨a, (hk g ((h3 g).2 rfl)).trans h1, h2, h3⟩
  · rintro S w k ⟨a, h1, h2, h3⟩ hk
    rw [(h3 k).1 hk]
    exact lt_of_heap h1
theorem cell3 {w : World} {g : Nat} {a b c : Value} {T : TypeId} (h : w.heap[g]? = some (.cells #[a, b, c] T (0, 0))) :
    w.cell? ⟨g, 0, none⟩ = some a ∧ w.cell? ⟨g, 1, none⟩ = some b ∧ w.cell? ⟨g, 2, none⟩ = some c ∧ w.frozen? ⟨g, 1, none⟩ = false ∧ w.frozen? ⟨g, 2, none⟩ = false := by
  simp [World.cell?, World.frozen?, h]
theorem set3_1 {w : World} {g : Nat} {a b c u : Value} {T : TypeId} (h : w.heap[g]? = some (.cells #[a, b, c] T (0, 0))) : (w.setCell ⟨g, 1, none⟩ u).heap[g]? = some (.cells #[a, u, c] T (0, 0)) := by
  simp [World.setCell, Array.getElem?_modify, h]
theorem set3_2 {w : World} {g : Nat} {a b c u : Value} {T : TypeId} (h : w.heap[g]? = some (.cells #[a, b, c] T (0, 0))) : (w.setCell ⟨g, 2, none⟩ u).heap[g]? = some (.cells #[a, b, u] T (0, 0)) := by
  simp [World.setCell, Array.getElem?_modify, h]

set_option maxHeartbeats 400000 in
theorem reader_fail (g : Nat) (a b : Value) (c : Bool) (w : World) (h : w.heap[g]? = some (.cells #[a, b, .bool c] 73 (0, 0))) :
    Calls Try.prog 41 #[.pointer (some ⟨g, 0, none⟩)] w fun e w' => e = .returned (.int .i64 0) ∧ w.setCell ⟨g, 2, none⟩ (.bool true) = w' := by
  obtain ⟨c0, c1, c2, f1, f2⟩ := cell3 h
  clear h
  go_enter Try.func41, Try.ntmps41
  go_wp2
  go_ret
  exact ⟨rfl, rfl⟩

set_option maxHeartbeats 400000 in
theorem pack_open (s : ByteArray) (w : World) :
    Calls Try.prog 25 #[.string s] w fun e w' => e = .returned (.pointer (some ⟨w.heap.size, 0, none⟩)) ∧ Fr w w' ∧ IsR w.heap.size s (some 0) (fun k => k = w.heap.size) w' := by
  go_enter Try.func25, Try.ntmps25
  go_wp2
  go_ret
  refine ⟨rfl, (Fr.refl w).alloc _, 0, ?_, fun a h => by injection h with h; subst h; simp, fun k => Iff.rfl⟩
  simpa using heap_alloc_new w _

set_option maxHeartbeats 400000 in
theorem pack_zag (u : Nat) (w : World) (h : u < 18446744073709551616) :
    Calls Try.prog 42 #[.int .u64 (u : Int)] w fun e w' => e = .returned (.int .i64 (zag u)) ∧ w = w' := by
  have HZ := Lib.hid (zag_go u h)
  have h1 := and1 u h
  go_enter Try.func42, Try.ntmps42
  go_wp2
  go_ret
  exact ⟨ret_int HZ.out, rfl⟩

/-- What Int comes to. -/
def rI (l : List UInt8) : Option Nat → Int × Option Nat
  | none => (0, none)
  | some a => match decI (l.drop a) with
    | none => (0, none)
    | some (n, k) => (n, some (a + k))

set_option maxHeartbeats 400000 in
theorem reader_int_bad (g : Nat) (s : ByteArray) (S : Nat → Prop) (w : World) (h : IsR g s none S w) :
    Calls Try.prog 26 #[.pointer (some ⟨g, 0, none⟩)] w fun e w' => e = .returned (.int .i64 0) ∧ w = w' := by
  obtain ⟨a, h1, _, _⟩ := h
  obtain ⟨c0, c1, c2, f1, f2⟩ := cell3 h1
  simp only [Option.isNone] at c2
  clear h1
  go_enter Try.func26, Try.ntmps26
  go_wp2
  go_ret
  exact ⟨rfl, rfl⟩
set_option maxHeartbeats 400000 in
theorem reader_int_nil (w : World) :
    Calls Try.prog 26 #[.pointer none] w fun e w' => e = .returned (.int .i64 0) ∧ w = w' := by
  go_enter Try.func26, Try.ntmps26
  go_wp2
  go_ret
  exact ⟨rfl, rfl⟩

theorem drop_cons (s : ByteArray) (p : Nat) (h : p < s.size) : s.data.toList.drop p = s[p] :: s.data.toList.drop (p + 1) := by
  rw [List.drop_eq_getElem_cons (by simpa using h)]; rfl
theorem drop_end (s : ByteArray) : s.data.toList.drop s.size = [] := by simp
theorem rI_none {l : List UInt8} {a : Nat} (h : decV 0 0 (l.drop a) = none) : rI l (some a) = (0, none) := by simp [rI, decI, h]
theorem rI_some {l : List UInt8} {a v k : Nat} (h : decV 0 0 (l.drop a) = some (v, k)) : rI l (some a) = (zag v, some (a + k)) := by simp [rI, decI, h]
theorem decV_step {i u : Nat} {c : UInt8} {l : List UInt8} (h1 : ¬ (i = 9 ∧ 1 < c.toNat)) (h2 : ¬ c.toNat < 128) : decV i u (c :: l) = decV (i + 1) (u + c.toNat % 128 * 128 ^ i) l := by
  have := c.toNat_lt
  rw [decV, if_neg h1, if_neg h2, show c.toNat % 128 = c.toNat - 128 by omega]
theorem decV_last {i u : Nat} {c : UInt8} {l : List UInt8} (h1 : ¬ (i = 9 ∧ 1 < c.toNat)) (h2 : c.toNat < 128) (h3 : ¬ (c.toNat = 0 ∧ 0 < i)) : decV i u (c :: l) = some (u + c.toNat % 128 * 128 ^ i, i + 1) := by
  rw [decV, if_neg h1, if_pos h2, if_neg h3, Nat.mod_eq_of_lt h2]
theorem decV_bad {i u : Nat} {c : UInt8} {l : List UInt8} (h : (i = 9 ∧ 1 < c.toNat) ∨ (c.toNat = 0 ∧ 0 < i)) : decV i u (c :: l) = none := by
  rw [decV]
  rcases h with h | h
  · rw [if_pos h]
  · rw [if_neg (by omega), if_pos (by omega), if_pos h]
theorem join7_lt {x y c : Nat} (hx : x ≤ 8) (hy : y < 128 ^ x) : y + c % 128 * 128 ^ x < 128 ^ (x + 1) := by
  rw [Nat.pow_succ]
  have h1 : c % 128 * 128 ^ x ≤ 127 * 128 ^ x := Nat.mul_le_mul_right _ (by omega)
  omega
theorem join7_lt64 {x y c : Nat} (hx : x ≤ 9) (hy : y < 128 ^ x) (h9 : x = 9 → c ≤ 1) : y + c % 128 * 128 ^ x < 18446744073709551616 := by
  by_cases h : x = 9
  · subst h
    have := h9 rfl
    have e : (128 : Nat) ^ 9 = 9223372036854775808 := by decide
    rw [e] at hy ⊢
    omega
  · have h1 := join7_lt (c := c) (show x ≤ 8 by omega) hy
    have h2 : (128 : Nat) ^ (x + 1) ≤ 128 ^ 9 := Nat.pow_le_pow_right (by omega) (by omega)
    have e : (128 : Nat) ^ 9 = 9223372036854775808 := by decide
    rw [e] at h2
    omega
theorem IsR.at_ {g : Nat} {s : ByteArray} {st : Option Nat} {S : Nat → Prop} {w0 w w' : World} (hst : Step (fun k => k = g) w0 w) (hS : ∀ k, S k ↔ k = g) (hs : Step (fun k => k = g) w w')
    {at_ : Int} (h : w'.heap[g]? = some (.cells #[.string s, .int .i64 at_, .bool st.isNone] 73 (0, 0))) (ha : ∀ a, st = some a → at_ = a ∧ a ≤ s.size) : Upd S (IsR g s st) w0 w' :=
  ⟨S, ⟨at_, h, ha, hS⟩, (hst.trans hs (fun i hi => .inl hi)).mono (fun k hk => (hS k).2 hk), fun k hk => .inl hk⟩

set_option maxHeartbeats 1000000 in
set_option maxRecDepth 100000 in
theorem reader_int_good (g : Nat) (s : ByteArray) (a : Nat) (S : Nat → Prop) (w : World) (h : IsR g s (some a) S w) (hs : s.size ≤ 9223372036854775000) :
    Calls Try.prog 26 #[.pointer (some ⟨g, 0, none⟩)] w fun e w' => e = .returned (.int .i64 (rI s.data.toList (some a)).1) ∧ Upd S (IsR g s (rI s.data.toList (some a)).2) w w' := by
  obtain ⟨at_, h1, h2, h3⟩ := h
  obtain ⟨rfl, ha⟩ := h2 a rfl
  have H1 := Lib.hid h1
  have H3 := Lib.hid h3
  obtain ⟨c0, c1, c2, f1, f2⟩ := cell3 h1
  simp only [Option.isNone] at c2
  clear h1 h2 h3
  go_enter Try.func26, Try.ntmps26
  go_wp2
  clear c0 c1 c2 f1 f2
  go_loopw [3, 14] (fun u i wr => ∃ (x y p : Nat), x ≤ 9 ∧ i = .int .i64 x ∧ u = .int .u64 y ∧ p ≤ s.size ∧ Hid (p = a + x) ∧ Hid (y < 128 ^ x) ∧ Hid (decV 0 0 (s.data.toList.drop a) = decV x y (s.data.toList.drop p)) ∧ Hid (wr.heap[g]? = some (.cells #[.string s, .int .i64 (p : Int), .bool false] 73 (0, 0))) ∧ Hid (Step (fun k => k = g) w wr)) (fun _ i _ => (10 - intOf i).toNat)
  case atStart => exact ⟨0, 0, a, by omega, rfl, rfl, ha, rfl, (show 0 < 128 ^ 0 by decide), rfl, H1.out, Step.refl _ _⟩
  case round =>
    obtain ⟨x, y, p, hx, rfl, rfl, hax, hp, hy, hdec, hb, hst⟩ := hrel
    obtain ⟨c0, c1, c2, f1, f2⟩ := cell3 hb.out
    by_cases hend : p = s.size
    · have he : ((p : Int) == (s.size : Int)) = true := by rw [hend]; simp
      have HE := Lib.hid hend
      clear hend
      go_wp2_with fail
      go_quiet (fail)
      go_wp2_with fail
      refine (reader_fail g (.string s) (.int .i64 p) false (wr.drewN nq) hb.out).mono ?_
      rintro e w1 ⟨rfl, rfl⟩
      go_wp2
      go_ret
      have hr := rI_none (l := s.data.toList) (a := a) (by rw [hdec.out, HE.out, drop_end]; rfl)
      rw [hr]
      exact ⟨rfl, IsR.at_ hst.out H3.out (((Step.refl _ wr).drewN nq).set1 2 _) (set3_2 (w := wr.drewN nq) hb.out) (fun _ h => by cases h)⟩
    · have he : ((p : Int) == (s.size : Int)) = false := by rw [beq_eq_false_iff_ne]; omega
      have hlt : p < s.size := by omega
      have hlt2 : (p : Int) < s.size := by omega
      have hp0 : 0 ≤ (p : Int) := by omega
      have HDC := Lib.hid (drop_cons s p hlt)
      clear hend
      obtain ⟨c, hc⟩ : ∃ c, s[p] = c := ⟨_, rfl⟩
      have hcl := c.toNat_lt
      rw [hc] at HDC
      have HX9 : Hid (∀ b, decide (x = 9) = b → ((x : Int) == 9) = b) := Lib.hid (fun b h => by rw [← h, Bool.eq_iff_iff]; simp; omega)
      by_cases hA : x = 9 ∧ 1 < c.toNat
      · have HN := Lib.hid (rI_none (l := s.data.toList) (a := a) (by rw [hdec.out, HDC.out]; exact decV_bad (.inl hA)))
        have hx9 := HX9.out true (by simp; omega)
        have hc2 : 1 < (c.toNat : Int) := by omega
        clear hA
        go_wp2_with fail
        go_quiet (fail)
        go_wp2_with fail
        go_quiet (fail)
        go_wp2_with fail
        refine (reader_fail g (.string s) (.int .i64 ((p : Int) + 1)) false _ (set3_1 (w := wr.drewN _) hb.out)).mono ?_
        rintro e w1 ⟨rfl, rfl⟩
        go_wp2
        go_ret
        rw [HN.out]
        exact ⟨rfl, IsR.at_ hst.out H3.out ((((Step.refl _ wr).drewN _).set1 1 _).set1 2 _) (set3_2 (set3_1 (w := wr.drewN _) hb.out)) (fun _ h => by cases h)⟩
      · by_cases hlt7 : c.toNat < 128
        · have hc3 : (c.toNat : Int) < 128 := by omega
          by_cases hB : c.toNat = 0 ∧ 0 < x
          · have HN := Lib.hid (rI_none (l := s.data.toList) (a := a) (by rw [hdec.out, HDC.out]; exact decV_bad (.inr hB)))
            have hcz : ((c.toNat : Int) == 0) = true := by rw [beq_iff_eq]; omega
            have hx0 : 0 < x := hB.2
            have hx1 : 0 < (x : Int) := by omega
            have hc1 : (c.toNat : Int) ≤ 1 := by omega
            obtain ⟨b, hb9⟩ : ∃ b, decide (x = 9) = b := ⟨_, rfl⟩
            have hx9 := HX9.out b hb9
            clear hA hB hb9
            cases b
            all_goals
              go_wp2_with fail
              go_quiet (fail)
              go_wp2_with fail
              go_quiet (fail)
              go_wp2_with fail
              refine (reader_fail g (.string s) (.int .i64 ((p : Int) + 1)) false _ (set3_1 (w := wr.drewN _) hb.out)).mono ?_
              rintro e w1 ⟨rfl, rfl⟩
              go_wp2
              go_ret
              rw [HN.out]
              exact ⟨rfl, IsR.at_ hst.out H3.out ((((Step.refl _ wr).drewN _).set1 1 _).set1 2 _) (set3_2 (set3_1 (w := wr.drewN _) hb.out)) (fun _ h => by cases h)⟩
          · have HN := Lib.hid (rI_some (l := s.data.toList) (a := a) (by rw [hdec.out, HDC.out]; exact decV_last hA hlt7 hB))
            have h91 : x = 9 → c.toNat ≤ 1 := fun h => by omega
            have HJ := Lib.hid (join7 x y c.toNat hx hy.out hcl h91)
            have HL := Lib.hid (join7_lt64 (c := c.toNat) hx hy.out h91)
            by_cases hcz0 : c.toNat = 0
            · have hx0 : (x : Int) ≤ 0 := by omega
              have hx00 : x ≤ 0 := by omega
              have hcz : ((c.toNat : Int) == 0) = true := by rw [beq_iff_eq]; omega
              have hx9 := HX9.out false (by simp; omega)
              clear hA hB hcz0 h91
              go_wp2_with fail
              go_quiet (fail)
              go_wp2_with fail
              go_quiet (fail)
              go_wp2_with fail
              rw [HJ.out]
              refine (pack_zag _ _ HL.out).mono ?_
              rintro e w1 ⟨rfl, rfl⟩
              go_wp2
              go_ret
              rw [HN.out]
              exact ⟨rfl, IsR.at_ hst.out H3.out (((Step.refl _ wr).drewN _).set1 1 _) (set3_1 (w := wr.drewN _) hb.out) (fun b h => by injection h with h; have := hp.out; constructor <;> omega)⟩
            · have hcz : ((c.toNat : Int) == 0) = false := by rw [beq_eq_false_iff_ne]; omega
              obtain ⟨b, hb9⟩ : ∃ b, decide (x = 9) = b := ⟨_, rfl⟩
              have hx9 := HX9.out b hb9
              cases b
              · clear hA hB hcz0 h91 hb9
                go_wp2_with fail
                go_quiet (fail)
                go_wp2_with fail
                go_quiet (fail)
                go_wp2_with fail
                rw [HJ.out]
                refine (pack_zag _ _ HL.out).mono ?_
                rintro e w1 ⟨rfl, rfl⟩
                go_wp2
                go_ret
                rw [HN.out]
                exact ⟨rfl, IsR.at_ hst.out H3.out (((Step.refl _ wr).drewN _).set1 1 _) (set3_1 (w := wr.drewN _) hb.out) (fun b h => by injection h with h; have := hp.out; constructor <;> omega)⟩
              · have hc1 : (c.toNat : Int) ≤ 1 := by simp at hb9; omega
                clear hA hB hcz0 h91 hb9
                go_wp2_with fail
                go_quiet (fail)
                go_wp2_with fail
                go_quiet (fail)
                go_wp2_with fail
                rw [HJ.out]
                refine (pack_zag _ _ HL.out).mono ?_
                rintro e w1 ⟨rfl, rfl⟩
                go_wp2
                go_ret
                rw [HN.out]
                exact ⟨rfl, IsR.at_ hst.out H3.out (((Step.refl _ wr).drewN _).set1 1 _) (set3_1 (w := wr.drewN _) hb.out) (fun b h => by injection h with h; have := hp.out; constructor <;> omega)⟩
        · have hx8 : x ≤ 8 := by omega
          have hx9 := HX9.out false (by simp; omega)
          have hc3 : 128 ≤ (c.toNat : Int) := by omega
          have HJ := Lib.hid (join7 x y c.toNat hx hy.out hcl (fun h => by omega))
          have HS := Lib.hid (hdec.out.trans ((congrArg _ HDC.out).trans (decV_step hA hlt7)))
          clear hA
          go_wp2_with fail
          go_quiet (fail)
          go_wp2_with fail
          go_quiet (fail)
          go_wp2_with fail
          go_roundw
          case rel =>
            refine ⟨x + 1, y + c.toNat % 128 * 128 ^ x, p + 1, by omega, by go_num, val_int HJ.out, by omega, ?_, join7_lt hx8 hy.out, HS.out, ?_, ?_⟩
            · show p + 1 = a + (x + 1)
              have := hp.out
              omega
            · exact set3_1 (w := wr.drewN _) hb.out
            · exact (hst.out.trans ((Step.refl _ wr).drewN _) (fun i hi => .inl hi)).set1 1 _
          case measure => simp [intOf]; omega

end Go.Proofs.Ytkifcmlehiidiaa
