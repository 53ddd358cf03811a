/- The walk of PackReads. -/
import Derived.Test.YtkifcmlehiidiaaRefR2
import Derived.Test.YtkifcmlehiidiaaPackAlive
import Derived.Test.YtkifcmlehiidiaaOpen
namespace Go.Proofs.Ytkifcmlehiidiaa
open Go.RowKit
set_option linter.unusedVariables false

theorem rq_local (gr gm : Nat) (s : ByteArray) (st st' : Option Nat) : ∀ B ∈ [IsR gr s st, IsQ gm s st'], LocalA B := by
  intro B hB
  simp only [List.mem_cons, List.not_mem_nil, or_false] at hB
  rcases hB with rfl | rfl
  · exact IsR.local gr s st
  · exact IsQ.local gm s st'
theorem r_local (gr : Nat) (s : ByteArray) (st : Option Nat) : ∀ B ∈ [IsR gr s st], LocalA B := by
  intro B hB
  simp only [List.mem_cons, List.not_mem_nil, or_false] at hB
  subst hB
  exact IsR.local gr s st
theorem q_local (gm : Nat) (s : ByteArray) (st : Option Nat) : ∀ B ∈ [IsQ gm s st], LocalA B := by
  intro B hB
  simp only [List.mem_cons, List.not_mem_nil, or_false] at hB
  subst hB
  exact IsQ.local gm s st
theorem rq_first {gr gm : Nat} {s : ByteArray} {st su : Option Nat} {w wc : World} (hU : Upd (fun _ => False) (Sep [IsR gr s st, IsQ gm s su]) w wc) :
    ∃ S1, IsR gr s st S1 wc ∧ ∀ st' w', Upd S1 (IsR gr s st') wc w' → Upd (fun _ => False) (Sep [IsR gr s st', IsQ gm s su]) w w' := by
  obtain ⟨S1, h1, k1⟩ := Upd.call (q_local gm s su) hU
  exact ⟨S1, h1, fun st' w' h => k1 _ _ h⟩
theorem rq_second {gr gm : Nat} {s : ByteArray} {st su : Option Nat} {w wc : World} (hU : Upd (fun _ => False) (Sep [IsR gr s st, IsQ gm s su]) w wc) :
    ∃ S1, IsQ gm s su S1 wc ∧ ∀ su' w', Upd S1 (IsQ gm s su') wc w' → Upd (fun _ => False) (Sep [IsR gr s st, IsQ gm s su']) w w' := by
  obtain ⟨S1, h1, k1⟩ := Upd.call (r_local gr s st) hU.swap
  exact ⟨S1, h1, fun st' w' h => (k1 _ _ h).swap⟩
theorem rq_keep {gr gm : Nat} {s : ByteArray} {st su : Option Nat} {w wc w' : World} (hU : Upd (fun _ => False) (Sep [IsR gr s st, IsQ gm s su]) w wc) (hf : Fr wc w') : Upd (fun _ => False) (Sep [IsR gr s st, IsQ gm s su]) w w' := Upd.fresh (rq_local gr gm s st su) hU hf
/-- What a question makes of the place. -/
def rAsk (l : List UInt8) (bound : Int) (st : Option Nat) (a : Int) : Option Nat :=
  if a = 0 then (rI l st).2 else if a = 1 then (rS l st).2 else if a = 2 then (rB l st).2 else (rM l bound st).2
def rAsks (l : List UInt8) (bound : Int) (asks : List Int) : Option Nat := asks.foldl (rAsk l bound) (some 0)
theorem rAsks_succ (l : List UInt8) (bound : Int) (asks : List Int) (k : Nat) (h : k < asks.length) : rAsks l bound (asks.take (k + 1)) = rAsk l bound (rAsks l bound (asks.take k)) asks[k] := by
  rw [List.take_succ_eq_append_getElem h]; simp only [rAsks, List.foldl_append, List.foldl_cons, List.foldl_nil]
theorem rS_bad {l : List UInt8} {st : Option Nat} (h : (rS l st).2 = none) : (rS l st).1 = [] := by
  unfold rS at h ⊢
  split
  · rfl
  · rename_i n a hr
    rw [hr] at h
    dsimp only at h ⊢
    split
    · rfl
    · rename_i hn
      rw [if_neg hn] at h
      cases h

set_option maxHeartbeats 8000000 in
set_option maxRecDepth 100000 in
theorem pack_reads (w : World) (s : ByteArray) (hs0 : s.size ≤ 140737488351232) (a : Option Addr) (cap : Nat) (asks : List Int) (hm : asks.length ≤ maxLen) (hr : RdRow w a (intRow asks)) (hasks : ∀ n ∈ asks, -9223372036854775808 ≤ n ∧ n ≤ 9223372036854775807) (bound : Int) (hbound : (Lit.int .i64 bound).wf = true) :
    Calls Try.prog 9 #[.string s, .slice a asks.length cap, .int .i64 bound] w fun e w' => e = .returned (.bool true) ∧ Below w.heap.size w w' := by
  unfold maxLen at hm
  clear hbound hasks
  by_cases hbig : s.size ≤ 1024 ∧ asks.length ≤ 40
  · obtain ⟨hs, h40⟩ := hbig
    go_enter Try.func9, Try.ntmps9
    go_wp2_with fail
    refine (pack_alive _).mono ?_
    rintro e w1 ⟨rfl, hf⟩
    go_wp2_with fail
    refine (pack_open s _).mono ?_
    rintro e w2 ⟨rfl, hf2, hR⟩
    have hQ : IsQ w2.heap.size s (some 0) (fun k => k = w2.heap.size) (w2.alloc (.cells #[.string s, .int .i64 0, .bool false] 61)) := ⟨0, heap_alloc_new w2 _, by omega, fun a h => by injection h, fun k => Iff.rfl⟩
    have h1 := Upd.new (L := []) (by simp) (Upd.start w1) hf2 _ hR (fun k hk => Nat.le_of_eq hk.symm)
    have h2 := Upd.new (L := [IsR w1.heap.size s (some 0)]) (r_local _ s _) h1 ((Fr.refl w2).alloc (.cells #[.string s, .int .i64 0, .bool false] 61)) _ hQ (fun k hk => Nat.le_of_eq hk.symm)
    have HU := Lib.hid (show Upd (fun _ => False) (Sep [IsR w1.heap.size s (some 0), IsQ w2.heap.size s (some 0)]) w (w2.alloc (.cells #[.string s, .int .i64 0, .bool false] 61)) from by
      obtain ⟨S', k1, k2, k3⟩ := h2.swap
      exact ⟨S', k1, (Step.of_fr hf).trans k2 (fun i hi => .inl hi), fun k hk => (k3 k hk).elim .inl (fun h => .inr (Nat.le_trans hf.size h))⟩)
    clear hQ h1 h2 hf hf2 hR
    go_wp2_with fail
    generalize w2.alloc (.cells #[.string s, .int .i64 0, .bool false] 61) = w3 at HU ⊢
    generalize w1.heap.size = gr at HU ⊢
    generalize w2.heap.size = gm at HU ⊢
    go_loopw [34] (fun i wr => ∃ k : Nat, k ≤ asks.length ∧ i = .int .i64 k ∧ Hid (Upd (fun _ => False) (Sep [IsR gr s (rAsks s.data.toList bound (asks.take k)), IsQ gm s (rAsks s.data.toList bound (asks.take k))]) w wr)) (fun i _ => (asks.length - intOf i).toNat)
    case atStart => exact ⟨0, by omega, rfl, HU.out⟩
    case round =>
      obtain ⟨k, hk, rfl, hU⟩ := hrel
      by_cases hlt : k < asks.length
      · have HPS := Lib.hid (rAsks_succ s.data.toList bound asks k hlt)
        obtain ⟨b, o, rfl, hcell⟩ := (hr.fr hU.out.fr).at (i := k) (v := .int .i64 asks[k]) (by simp [intRow, hlt])
        have HR := Lib.hid hr
        clear hr
        generalize rAsks s.data.toList bound (asks.take k) = st at *
        obtain ⟨x, hx⟩ : ∃ x, asks[k] = x := ⟨_, rfl⟩
        rw [hx] at hcell HPS
        clear hx
        obtain ⟨S1, h1, k1⟩ := rq_first hU.out
        have H1 := Lib.hid h1
        have K1 := Lib.hid k1
        clear h1 k1 hU
        by_cases hx0 : x = 0
        · subst hx0
          obtain ⟨r, hr0⟩ : ∃ r, rI s.data.toList st = r := ⟨_, rfl⟩
          have HNEW : Hid (rAsk s.data.toList bound st 0 = r.2) := by show _ = _; rw [← hr0]; unfold rAsk; rw [if_pos rfl]
          have hc := reader_int gr s st S1 _ H1.out (by omega)
          rw [hr0] at hc
          obtain ⟨v, st', rfl⟩ : ∃ v st', r = (v, st') := ⟨_, _, rfl⟩
          have HR0 := Lib.hid hr0
          clear hr0
          go_wp2_with fail
          refine hc.mono ?_
          rintro e w4 ⟨rfl, hu⟩
          have HU2 := Lib.hid (K1.out _ _ hu)
          clear hu K1 H1 hc
          obtain ⟨S2, h2, k2⟩ := rq_second HU2.out
          have K2 := Lib.hid k2
          have hc := refr_int gm s st S2 _ h2 (by omega)
          rw [HR0.out] at hc
          clear h2 k2
          go_wp2_with fail
          refine hc.mono ?_
          rintro e w5 ⟨rfl, hu⟩
          have HU3 := Lib.hid (K2.out _ _ hu)
          clear hu K2 hc HU2
          obtain ⟨S3, h3, _⟩ := rq_first HU3.out
          obtain ⟨S4, h4, _⟩ := rq_second HU3.out
          have hend := reader_end gr s st' S3 _ h3 (by omega)
          obtain ⟨at_, hb, hle, ha, _⟩ := h4
          obtain ⟨c0, c1, c2, f1, f2⟩ := cell3 hb
          clear h3 hb hcell
          cases st' with
          | none =>
            simp only [Option.isNone] at c2
            have e4 : rEnd s.data.toList none = 4 := rfl
            rw [e4] at hend
            clear ha
            go_wp2_with fail
            refine hend.mono ?_
            rintro e w6 ⟨rfl, hf6⟩
            have HU4 := Lib.hid (rq_keep HU3.out hf6)
            clear hend c0 c1 c2 f1 f2
            obtain ⟨S5, h5, _⟩ := rq_first HU4.out
            have hend2 := reader_end gr s none S5 _ h5 (by omega)
            rw [e4] at hend2
            clear h5
            go_wp2_with fail
            refine hend2.mono ?_
            rintro e w7 ⟨rfl, hf7⟩
            have HU5 := Lib.hid (rq_keep HU4.out hf7)
            clear hend2 hf6 hf7 HU4
            go_wp2
            go_roundw
            case rel => exact ⟨k + 1, by omega, by go_num, by rw [HPS.out, HNEW.out]; exact HU5.out⟩
            case measure => simp [intOf]; omega
          | some p =>
            simp only [Option.isNone] at c2
            obtain rfl := ha p rfl
            by_cases hp : at_ = s.size
            · have e4 : rEnd s.data.toList (some at_) = 0 := by unfold rEnd; rw [if_pos (by rw [ba_len, hp])]
              rw [e4] at hend
              have hq : ((at_ : Int) == (s.size : Int)) = true := by rw [beq_iff_eq]; omega
              clear ha hp e4
              go_wp2_with fail
              refine hend.mono ?_
              rintro e w6 ⟨rfl, hf6⟩
              have HU4 := Lib.hid (rq_keep HU3.out hf6)
              clear hend c0 c1 c2 f1 f2 hf6
              go_wp2
              go_roundw
              case rel => exact ⟨k + 1, by omega, by go_num, by rw [HPS.out, HNEW.out]; exact HU4.out⟩
              case measure => simp [intOf]; omega
            · have e4 : rEnd s.data.toList (some at_) = 4 := by unfold rEnd; rw [if_neg (by rw [ba_len]; intro h; injection h with h; exact hp h)]
              rw [e4] at hend
              have hq : ((at_ : Int) == (s.size : Int)) = false := by rw [beq_eq_false_iff_ne]; omega
              clear ha hp
              go_wp2_with fail
              refine hend.mono ?_
              rintro e w6 ⟨rfl, hf6⟩
              have HU4 := Lib.hid (rq_keep HU3.out hf6)
              clear hend c0 c1 c2 f1 f2
              obtain ⟨S5, h5, _⟩ := rq_first HU4.out
              have hend2 := reader_end gr s (some at_) S5 _ h5 (by omega)
              rw [e4] at hend2
              clear h5 e4
              go_wp2_with fail
              refine hend2.mono ?_
              rintro e w7 ⟨rfl, hf7⟩
              have HU5 := Lib.hid (rq_keep HU4.out hf7)
              clear hend2 hf6 hf7 HU4
              go_wp2
              go_roundw
              case rel => exact ⟨k + 1, by omega, by go_num, by rw [HPS.out, HNEW.out]; exact HU5.out⟩
              case measure => simp [intOf]; omega
        · by_cases hx1 : x = 1
          · subst hx1
            obtain ⟨r, hr0⟩ : ∃ r, rS s.data.toList st = r := ⟨_, rfl⟩
            have HNEW : Hid (rAsk s.data.toList bound st 1 = r.2) := by show _ = _; rw [← hr0]; unfold rAsk; rw [if_neg (by omega), if_pos rfl]
            have HBAD : Hid (r.2 = none → r.1 = []) := by rw [← hr0]; exact rS_bad
            have hc := reader_str gr s st S1 _ H1.out (by omega)
            rw [hr0] at hc
            obtain ⟨v, st', rfl⟩ : ∃ v st', r = (v, st') := ⟨_, _, rfl⟩
            have HR0 := Lib.hid hr0
            clear hr0
            go_wp2_with fail
            refine hc.mono ?_
            rintro e w4 ⟨rfl, hu⟩
            have HU2 := Lib.hid (K1.out _ _ hu)
            clear hu K1 H1 hc
            obtain ⟨S2, h2, k2⟩ := rq_second HU2.out
            have K2 := Lib.hid k2
            have hc := refr_str gm s st S2 _ h2 (by omega)
            rw [HR0.out] at hc
            clear h2 k2
            go_wp2_with fail
            refine hc.mono ?_
            rintro e w5 ⟨rfl, hu⟩
            have HU3 := Lib.hid (K2.out _ _ hu)
            clear hu K2 hc HU2
            obtain ⟨S3, h3, _⟩ := rq_first HU3.out
            obtain ⟨S4, h4, _⟩ := rq_second HU3.out
            have hend := reader_end gr s st' S3 _ h3 (by omega)
            obtain ⟨at_, hb, hle, ha, _⟩ := h4
            obtain ⟨c0, c1, c2, f1, f2⟩ := cell3 hb
            clear h3 hb hcell
            cases st' with
            | none =>
              simp only [Option.isNone] at c2
              have e4 : rEnd s.data.toList none = 4 := rfl
              rw [e4] at hend
              clear ha
              have hvv := HBAD.out rfl
              subst hvv
              go_wp2_with fail
              refine hend.mono ?_
              rintro e w6 ⟨rfl, hf6⟩
              have HU4 := Lib.hid (rq_keep HU3.out hf6)
              clear hend c0 c1 c2 f1 f2
              obtain ⟨S5, h5, _⟩ := rq_first HU4.out
              have hend2 := reader_end gr s none S5 _ h5 (by omega)
              rw [e4] at hend2
              clear h5
              go_wp2_with fail
              refine hend2.mono ?_
              rintro e w7 ⟨rfl, hf7⟩
              have HU5 := Lib.hid (rq_keep HU4.out hf7)
              clear hend2 hf6 hf7 HU4
              go_wp2
              go_roundw
              case rel => exact ⟨k + 1, by omega, by go_num, by rw [HPS.out, HNEW.out]; exact HU5.out⟩
              case measure => simp [intOf]; omega
            | some p =>
              simp only [Option.isNone] at c2
              obtain rfl := ha p rfl
              by_cases hp : at_ = s.size
              · have e4 : rEnd s.data.toList (some at_) = 0 := by unfold rEnd; rw [if_pos (by rw [ba_len, hp])]
                rw [e4] at hend
                have hq : ((at_ : Int) == (s.size : Int)) = true := by rw [beq_iff_eq]; omega
                clear ha hp e4
                go_wp2_with fail
                refine hend.mono ?_
                rintro e w6 ⟨rfl, hf6⟩
                have HU4 := Lib.hid (rq_keep HU3.out hf6)
                clear hend c0 c1 c2 f1 f2 hf6
                go_wp2
                go_roundw
                case rel => exact ⟨k + 1, by omega, by go_num, by rw [HPS.out, HNEW.out]; exact HU4.out⟩
                case measure => simp [intOf]; omega
              · have e4 : rEnd s.data.toList (some at_) = 4 := by unfold rEnd; rw [if_neg (by rw [ba_len]; intro h; injection h with h; exact hp h)]
                rw [e4] at hend
                have hq : ((at_ : Int) == (s.size : Int)) = false := by rw [beq_eq_false_iff_ne]; omega
                clear ha hp
                go_wp2_with fail
                refine hend.mono ?_
                rintro e w6 ⟨rfl, hf6⟩
                have HU4 := Lib.hid (rq_keep HU3.out hf6)
                clear hend c0 c1 c2 f1 f2
                obtain ⟨S5, h5, _⟩ := rq_first HU4.out
                have hend2 := reader_end gr s (some at_) S5 _ h5 (by omega)
                rw [e4] at hend2
                clear h5 e4
                go_wp2_with fail
                refine hend2.mono ?_
                rintro e w7 ⟨rfl, hf7⟩
                have HU5 := Lib.hid (rq_keep HU4.out hf7)
                clear hend2 hf6 hf7 HU4
                go_wp2
                go_roundw
                case rel => exact ⟨k + 1, by omega, by go_num, by rw [HPS.out, HNEW.out]; exact HU5.out⟩
                case measure => simp [intOf]; omega
          · by_cases hx2 : x = 2
            · subst hx2
              obtain ⟨r, hr0⟩ : ∃ r, rB s.data.toList st = r := ⟨_, rfl⟩
              have HNEW : Hid (rAsk s.data.toList bound st 2 = r.2) := by show _ = _; rw [← hr0]; unfold rAsk; rw [if_neg (by omega), if_neg (by omega), if_pos rfl]
              have hc := reader_bool gr s st S1 _ H1.out (by omega)
              rw [hr0] at hc
              obtain ⟨v, st', rfl⟩ : ∃ v st', r = (v, st') := ⟨_, _, rfl⟩
              have HR0 := Lib.hid hr0
              clear hr0
              go_wp2_with fail
              refine hc.mono ?_
              rintro e w4 ⟨rfl, hu⟩
              have HU2 := Lib.hid (K1.out _ _ hu)
              clear hu K1 H1 hc
              obtain ⟨S2, h2, k2⟩ := rq_second HU2.out
              have K2 := Lib.hid k2
              have hc := refr_bool gm s st S2 _ h2 (by omega)
              rw [HR0.out] at hc
              clear h2 k2
              go_wp2_with fail
              refine hc.mono ?_
              rintro e w5 ⟨rfl, hu⟩
              have HU3 := Lib.hid (K2.out _ _ hu)
              clear hu K2 hc HU2
              obtain ⟨S3, h3, _⟩ := rq_first HU3.out
              obtain ⟨S4, h4, _⟩ := rq_second HU3.out
              have hend := reader_end gr s st' S3 _ h3 (by omega)
              obtain ⟨at_, hb, hle, ha, _⟩ := h4
              obtain ⟨c0, c1, c2, f1, f2⟩ := cell3 hb
              clear h3 hb hcell
              cases st' with
              | none =>
                simp only [Option.isNone] at c2
                have e4 : rEnd s.data.toList none = 4 := rfl
                rw [e4] at hend
                clear ha
                go_wp2_with fail
                refine hend.mono ?_
                rintro e w6 ⟨rfl, hf6⟩
                have HU4 := Lib.hid (rq_keep HU3.out hf6)
                clear hend c0 c1 c2 f1 f2
                obtain ⟨S5, h5, _⟩ := rq_first HU4.out
                have hend2 := reader_end gr s none S5 _ h5 (by omega)
                rw [e4] at hend2
                clear h5
                go_wp2_with fail
                refine hend2.mono ?_
                rintro e w7 ⟨rfl, hf7⟩
                have HU5 := Lib.hid (rq_keep HU4.out hf7)
                clear hend2 hf6 hf7 HU4
                go_wp2
                go_roundw
                case rel => exact ⟨k + 1, by omega, by go_num, by rw [HPS.out, HNEW.out]; exact HU5.out⟩
                case measure => simp [intOf]; omega
              | some p =>
                simp only [Option.isNone] at c2
                obtain rfl := ha p rfl
                by_cases hp : at_ = s.size
                · have e4 : rEnd s.data.toList (some at_) = 0 := by unfold rEnd; rw [if_pos (by rw [ba_len, hp])]
                  rw [e4] at hend
                  have hq : ((at_ : Int) == (s.size : Int)) = true := by rw [beq_iff_eq]; omega
                  clear ha hp e4
                  go_wp2_with fail
                  refine hend.mono ?_
                  rintro e w6 ⟨rfl, hf6⟩
                  have HU4 := Lib.hid (rq_keep HU3.out hf6)
                  clear hend c0 c1 c2 f1 f2 hf6
                  go_wp2
                  go_roundw
                  case rel => exact ⟨k + 1, by omega, by go_num, by rw [HPS.out, HNEW.out]; exact HU4.out⟩
                  case measure => simp [intOf]; omega
                · have e4 : rEnd s.data.toList (some at_) = 4 := by unfold rEnd; rw [if_neg (by rw [ba_len]; intro h; injection h with h; exact hp h)]
                  rw [e4] at hend
                  have hq : ((at_ : Int) == (s.size : Int)) = false := by rw [beq_eq_false_iff_ne]; omega
                  clear ha hp
                  go_wp2_with fail
                  refine hend.mono ?_
                  rintro e w6 ⟨rfl, hf6⟩
                  have HU4 := Lib.hid (rq_keep HU3.out hf6)
                  clear hend c0 c1 c2 f1 f2
                  obtain ⟨S5, h5, _⟩ := rq_first HU4.out
                  have hend2 := reader_end gr s (some at_) S5 _ h5 (by omega)
                  rw [e4] at hend2
                  clear h5 e4
                  go_wp2_with fail
                  refine hend2.mono ?_
                  rintro e w7 ⟨rfl, hf7⟩
                  have HU5 := Lib.hid (rq_keep HU4.out hf7)
                  clear hend2 hf6 hf7 HU4
                  go_wp2
                  go_roundw
                  case rel => exact ⟨k + 1, by omega, by go_num, by rw [HPS.out, HNEW.out]; exact HU5.out⟩
                  case measure => simp [intOf]; omega
            · have e0 : (x == 0) = false := by rw [beq_eq_false_iff_ne]; exact hx0
              have e1 : (x == 1) = false := by rw [beq_eq_false_iff_ne]; exact hx1
              have e2 : (x == 2) = false := by rw [beq_eq_false_iff_ne]; exact hx2
              obtain ⟨r, hr0⟩ : ∃ r, rM s.data.toList bound st = r := ⟨_, rfl⟩
              have HNEW : Hid (rAsk s.data.toList bound st x = r.2) := by show _ = _; rw [← hr0]; unfold rAsk; rw [if_neg hx0, if_neg hx1, if_neg hx2]
              have hc := reader_many gr s bound st S1 _ H1.out (by omega)
              rw [hr0] at hc
              obtain ⟨v, st', rfl⟩ : ∃ v st', r = (v, st') := ⟨_, _, rfl⟩
              have HR0 := Lib.hid hr0
              clear hr0
              go_wp2_with fail
              refine hc.mono ?_
              rintro e w4 ⟨rfl, hu⟩
              have HU2 := Lib.hid (K1.out _ _ hu)
              clear hu K1 H1 hc
              obtain ⟨S2, h2, k2⟩ := rq_second HU2.out
              have K2 := Lib.hid k2
              have hc := refr_many gm s bound st S2 _ h2 (by omega)
              rw [HR0.out] at hc
              clear h2 k2
              go_wp2_with fail
              refine hc.mono ?_
              rintro e w5 ⟨rfl, hu⟩
              have HU3 := Lib.hid (K2.out _ _ hu)
              clear hu K2 hc HU2
              obtain ⟨S3, h3, _⟩ := rq_first HU3.out
              obtain ⟨S4, h4, _⟩ := rq_second HU3.out
              have hend := reader_end gr s st' S3 _ h3 (by omega)
              obtain ⟨at_, hb, hle, ha, _⟩ := h4
              obtain ⟨c0, c1, c2, f1, f2⟩ := cell3 hb
              clear h3 hb hcell
              cases st' with
              | none =>
                simp only [Option.isNone] at c2
                have e4 : rEnd s.data.toList none = 4 := rfl
                rw [e4] at hend
                clear ha
                go_wp2_with fail
                refine hend.mono ?_
                rintro e w6 ⟨rfl, hf6⟩
                have HU4 := Lib.hid (rq_keep HU3.out hf6)
                clear hend c0 c1 c2 f1 f2
                obtain ⟨S5, h5, _⟩ := rq_first HU4.out
                have hend2 := reader_end gr s none S5 _ h5 (by omega)
                rw [e4] at hend2
                clear h5
                go_wp2_with fail
                refine hend2.mono ?_
                rintro e w7 ⟨rfl, hf7⟩
                have HU5 := Lib.hid (rq_keep HU4.out hf7)
                clear hend2 hf6 hf7 HU4
                go_wp2
                go_roundw
                case rel => exact ⟨k + 1, by omega, by go_num, by rw [HPS.out, HNEW.out]; exact HU5.out⟩
                case measure => simp [intOf]; omega
              | some p =>
                simp only [Option.isNone] at c2
                obtain rfl := ha p rfl
                by_cases hp : at_ = s.size
                · have e4 : rEnd s.data.toList (some at_) = 0 := by unfold rEnd; rw [if_pos (by rw [ba_len, hp])]
                  rw [e4] at hend
                  have hq : ((at_ : Int) == (s.size : Int)) = true := by rw [beq_iff_eq]; omega
                  clear ha hp e4
                  go_wp2_with fail
                  refine hend.mono ?_
                  rintro e w6 ⟨rfl, hf6⟩
                  have HU4 := Lib.hid (rq_keep HU3.out hf6)
                  clear hend c0 c1 c2 f1 f2 hf6
                  go_wp2
                  go_roundw
                  case rel => exact ⟨k + 1, by omega, by go_num, by rw [HPS.out, HNEW.out]; exact HU4.out⟩
                  case measure => simp [intOf]; omega
                · have e4 : rEnd s.data.toList (some at_) = 4 := by unfold rEnd; rw [if_neg (by rw [ba_len]; intro h; injection h with h; exact hp h)]
                  rw [e4] at hend
                  have hq : ((at_ : Int) == (s.size : Int)) = false := by rw [beq_eq_false_iff_ne]; omega
                  clear ha hp
                  go_wp2_with fail
                  refine hend.mono ?_
                  rintro e w6 ⟨rfl, hf6⟩
                  have HU4 := Lib.hid (rq_keep HU3.out hf6)
                  clear hend c0 c1 c2 f1 f2
                  obtain ⟨S5, h5, _⟩ := rq_first HU4.out
                  have hend2 := reader_end gr s (some at_) S5 _ h5 (by omega)
                  rw [e4] at hend2
                  clear h5 e4
                  go_wp2_with fail
                  refine hend2.mono ?_
                  rintro e w7 ⟨rfl, hf7⟩
                  have HU5 := Lib.hid (rq_keep HU4.out hf7)
                  clear hend2 hf6 hf7 HU4
                  go_wp2
                  go_roundw
                  case rel => exact ⟨k + 1, by omega, by go_num, by rw [HPS.out, HNEW.out]; exact HU5.out⟩
                  case measure => simp [intOf]; omega
      · obtain rfl : k = asks.length := by omega
        have HFF := Lib.hid hU.out.fr
        clear hU
        go_wp2_with fail
        refine (reader_int_nil _).mono ?_
        rintro e w' ⟨rfl, rfl⟩
        go_wp2_with fail
        refine (reader_str_nil _).mono ?_
        rintro e w' ⟨rfl, rfl⟩
        go_wp2_with fail
        refine (reader_bool_nil _).mono ?_
        rintro e w' ⟨rfl, rfl⟩
        go_wp2_with fail
        refine (reader_many_nil 9 _).mono ?_
        rintro e w' ⟨rfl, rfl⟩
        go_wp2_with fail
        refine (reader_end_nil _).mono ?_
        rintro e w' ⟨rfl, rfl⟩
        go_wp2
        go_ret
        exact ⟨rfl, HFF.out⟩
  · have hcase : 1024 < s.size ∨ (s.size ≤ 1024 ∧ 40 < asks.length) := by omega
    clear hbig
    rcases hcase with h | ⟨h, h2⟩
    all_goals
      go_enter Try.func9, Try.ntmps9
      go_wp2_with fail
      refine (pack_alive _).mono ?_
      rintro e w1 ⟨rfl, hf⟩
      go_wp2
      go_ret
      exact ⟨rfl, hf⟩

end Go.Proofs.Ytkifcmlehiidiaa
