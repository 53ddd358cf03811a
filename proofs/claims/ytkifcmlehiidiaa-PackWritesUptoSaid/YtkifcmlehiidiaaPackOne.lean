/- The walk of PackOne. -/
import Derived.Test.YtkifcmlehiidiaaPackAlive
import Derived.Test.YtkifcmlehiidiaaApp
import Derived.Deep.CutBlock
import Derived.Deep.DeepCutAuto
import Derived.Deep.LoopGhost
namespace Go.Proofs.Ytkifcmlehiidiaa
open Go.RowKit
set_option linter.unusedVariables false

theorem infoString : (Try.prog.info? 9).map (fun i => (i.zero, i.size, i.bytes)) = some (some (.string ByteArray.empty), 1, 16) := by kernel_rfl
theorem eqRow_step {α : Type} [DecidableEq α] (a b : List α) (k : Nat) (hl : a.length = b.length) (h : k < a.length) (he : a.take k = b.take k) :
    (a[k] = b[k]'(hl ▸ h)) ↔ a.take (k + 1) = b.take (k + 1) := by
  have h1 := List.take_succ_eq_append_getElem h
  have h2 := List.take_succ_eq_append_getElem (l := b) (hl ▸ h)
  rw [h1, h2, he]
  constructor
  · intro h; rw [h]
  · intro h; simpa using List.append_cancel_left h

theorem bytesIn_le {B : Nat} : ∀ (l : List ByteArray), (∀ x ∈ l, x.size ≤ B) → bytesIn l ≤ B * l.length
  | [], _ => by simp [bytesIn]
  | s :: l, h => by
    have h1 := h s (List.mem_cons_self ..)
    have h2 := bytesIn_le l (fun x hx => h x (List.mem_cons_of_mem _ hx))
    have h3 : bytesIn (s :: l) = s.size + bytesIn l := by simp [bytesIn]
    rw [h3, List.length_cons, Nat.mul_succ]
    omega
theorem lists_inj : ∀ {a b : List ByteArray}, lists a = lists b → a = b
  | [], [], _ => rfl
  | [], _ :: _, h => by simp [lists] at h
  | _ :: _, [], h => by simp [lists] at h
  | x :: a, y :: b, h => by
    simp only [lists, List.map_cons, List.cons.injEq] at h
    rw [ba_ext h.1, lists_inj (a := a) (b := b) h.2]
theorem bytes_beq {x y : List UInt8} {X Y : ByteArray} (hx : X = ⟨x.toArray⟩) (hy : Y = ⟨y.toArray⟩) {p : Prop} [Decidable p] (h : x = y ↔ p) : (X.toList == Y.toList) = decide p := by
  subst hx hy
  rw [ByteArray.toList_eq, ByteArray.toList_eq]
  simp only [Bool.beq_eq_decide_eq]
  exact decide_eq_decide.mpr h

theorem fourNew (w : World) : Upd (fun _ => False) (Sep [IsW (w.heap.size + 1 + 1 + 1) [], IsW (w.heap.size + 1 + 1) [], IsW (w.heap.size + 1) [], IsW w.heap.size []]) w
    ((((w.alloc (.cells #[.pointer none, .slice none 0 0] 42)).alloc (.cells #[.pointer none, .slice none 0 0] 42)).alloc (.cells #[.pointer none, .slice none 0 0] 42)).alloc (.cells #[.pointer none, .slice none 0 0] 42)) := by
  have h1 := (Upd.start w).new (by simp) ((Fr.refl _).alloc _) _ (IsW.new w) (fun k h => by omega)
  have h2 := h1.new (by simp [IsW.local]) ((Fr.refl _).alloc _) _ (IsW.new _) (fun k h => by omega)
  have h3 := h2.new (by simp [IsW.local]) ((Fr.refl _).alloc _) _ (IsW.new _) (fun k h => by omega)
  have h4 := h3.new (by simp [IsW.local]) ((Fr.refl _).alloc _) _ (IsW.new _) (fun k h => by omega)
  simpa using h4
theorem apartRow {S1 : Nat → Prop} {w w1 : World} (h : ∀ k, S1 k → False ∨ w1.heap.size ≤ k) {a : Option Addr} {vs : List Value} (hr : RdRow w a vs) (hf : Fr w w1) : ∀ b o, a = some ⟨b, o, none⟩ → vs ≠ [] → ¬ S1 b := by
  intro b o ha hv hS
  have h1 := hr.lt ha hv
  have h2 := hf.size
  rcases h b hS with h | h
  · exact h
  · omega

set_option maxHeartbeats 2000000 in
set_option maxRecDepth 100000 in
theorem pack_one_small (a0 a1 a2 a3 : Option Addr) (c0 c1 c2 c3 : Nat) (a b : List Int) (s t : List ByteArray) (w : World)
    (ha : RdRow w a0 (intRow a)) (hb : RdRow w a1 (intRow b)) (hs : RdRow w a2 (strRow s)) (ht : RdRow w a3 (strRow t))
    (ia : inI64 a) (ib : inI64 b) (is : ∀ x ∈ s, x.size ≤ maxLen) (it : ∀ x ∈ t, x.size ≤ maxLen)
    (la : a.length ≤ 60) (lb : b.length ≤ 60) (ls : s.length ≤ 60) (lt : t.length ≤ 60) :
    Calls Try.prog 6 #[.slice a0 a.length c0, .slice a1 b.length c1, .slice a2 s.length c2, .slice a3 t.length c3] w fun e w' => e = .returned (.bool true) ∧ Fr w w' := by
  have HA := Lib.hid ha
  have HB := Lib.hid hb
  have HS := Lib.hid hs
  have HTT := Lib.hid ht
  have HIA := Lib.hid ia
  have HIB := Lib.hid ib
  have HIS := Lib.hid is
  have HIT := Lib.hid it
  clear ha hb hs ht ia ib is it
  go_enter Try.func6, Try.ntmps6
  go_wp2_with fail
  refine (pack_alive _).mono ?_
  rintro e w1 ⟨rfl, hf1⟩
  go_wp2_with fail
  have hU := fourNew w1
  obtain ⟨S1, hW, hS1, hup⟩ := hU.callAt [_, _, _] (by simp [IsW.local])
  refine (writer_int _ [] S1 a0 c0 a _ hW (HA.out.fr (hf1.trans hU.fr)) (fun b o e hn => apartRow hS1 HA.out hf1 b o e (by simpa [intRow] using hn)) HIA.out (by simp; omega)).mono ?_
  rintro e w2 ⟨rfl, hu⟩
  have HU2 := Lib.hid (hup _ _ hu)
  clear hu hup hS1 hW hU
  rw [List.nil_append] at HU2
  go_wp2_with fail
  obtain ⟨S1, hW, hS1, hup⟩ := HU2.out.callAt [_, _] (by simp [IsW.local])
  refine (writer_int _ [] S1 a1 c1 b _ hW (HB.out.fr (hf1.trans HU2.out.fr)) (fun b o e hn => apartRow hS1 HB.out hf1 b o e (by simpa [intRow] using hn)) HIB.out (by simp; omega)).mono ?_
  rintro e w3 ⟨rfl, hu⟩
  have HU3 := Lib.hid (hup _ _ hu)
  clear hu hup hS1 hW HU2
  rw [List.nil_append] at HU3
  generalize hg : w1.heap.size = g at *
  clear hg
  have hf3 : Fr w w3 := hf1.trans HU3.out.fr
  have HF3 := Lib.hid hf3
  clear hf3
  go_upto_block 0 with fail
  go_cut [13, 14] (fun sm _ wx => sm = .bool (decide (a = b)) ∧ Hid (Fr w3 wx))
  case first =>
    go_wp2_with fail
    go_loopg [13, 14] a.length (fun g sm si wr => ∃ (k : Nat) (q : Bool), k ≤ a.length ∧ g = a.length - k ∧ si = .int .i64 k ∧ sm = .bool q ∧ Hid (q = true → b.length = a.length ∧ a.take k = b.take k) ∧ Hid (q = false → a ≠ b) ∧ Hid (Fr w3 wr))
    case atStart =>
      refine ⟨0, decide (a.length = b.length), by omega, by omega, rfl, ?_, ?_, ?_, Fr.refl _⟩
      · exact congrArg Value.bool (by simp [Bool.beq_eq_decide_eq]; omega)
      · intro h
        exact ⟨(of_decide_eq_true h).symm, rfl⟩
      · intro h e
        subst e
        simp at h
    case round =>
      obtain ⟨k, q, hk, rfl, rfl, rfl, h1, h2, hfr⟩ := hrel
      cases q
      · go_wp2
        go_meet
        refine ⟨?_, hfr⟩
        have h := h2.out (by simp)
        simp [h]
      · obtain ⟨hbl, htk⟩ := h1.out rfl
        by_cases hlt : k < a.length
        · have HT := Lib.hid htk
          clear htk
          have hltb : k < b.length := by omega
          obtain ⟨ba, oa, rfl, hca⟩ := (HA.out.fr (HF3.out.trans hfr.out)).at (i := k) (v := .int .i64 a[k]) (by simp [intRow, hlt])
          obtain ⟨bb, ob, rfl, hcb⟩ := (HB.out.fr (HF3.out.trans hfr.out)).at (i := k) (v := .int .i64 (b[k]'hltb)) (by simp [intRow, hltb])
          have HX := Lib.hid (eqRow_step a b k hbl.symm hlt HT.out)
          generalize hx : a[k] = x at *
          generalize hy : b[k]'hltb = y at *
          clear hx hy
          have HBL := Lib.hid hbl
          clear hbl
          go_wp2_with fail
          go_quiet (fail)
          go_wp2
          go_roundg (a.length - (k + 1))
          case measure => omega
          case rel =>
            refine ⟨k + 1, decide (x = y), by omega, rfl, by go_num, ?_, ?_, ?_, ?_⟩
            · exact congrArg Value.bool (by simp [Bool.beq_eq_decide_eq])
            · intro h
              exact ⟨HBL.out, HX.out.mp (of_decide_eq_true h)⟩
            · intro h e
              exact of_decide_eq_false h (HX.out.mpr (by rw [e]))
            · exact hfr.out.trans ((Fr.refl _).drewN nq)
        · obtain rfl : k = a.length := by omega
          have he : a = b := by rw [List.take_length] at htk; rw [← hbl, List.take_length] at htk; exact htk
          have HE := Lib.hid he
          clear he htk hbl
          go_wp2
          go_meet
          refine ⟨?_, hfr⟩
          simp [HE.out]
  case rest =>
    obtain ⟨rfl, HFC⟩ := hcut
    go_upto_block 2 with fail
    have HFW := Lib.hid (HF3.out.trans HFC.out)
    go_cut [15, 16] (fun sm _ wx => sm = .bool (decide (s = t)) ∧ Hid (Fr wc wx))
    case first =>
      go_wp2_with fail
      go_loopg [15, 16] s.length (fun g sm si wr => ∃ (k : Nat) (q : Bool), k ≤ s.length ∧ g = s.length - k ∧ si = .int .i64 k ∧ sm = .bool q ∧ Hid (q = true → t.length = s.length ∧ s.take k = t.take k) ∧ Hid (q = false → s ≠ t) ∧ Hid (Fr wc wr))
      case atStart =>
        refine ⟨0, decide (s.length = t.length), by omega, by omega, rfl, ?_, ?_, ?_, Fr.refl _⟩
        · exact congrArg Value.bool (by simp [Bool.beq_eq_decide_eq]; omega)
        · intro h
          exact ⟨(of_decide_eq_true h).symm, rfl⟩
        · intro h e
          subst e
          simp at h
      case round =>
        obtain ⟨k, q, hk, rfl, rfl, rfl, h1, h2, hfr⟩ := hrel
        cases q
        · go_wp2
          go_meet
          refine ⟨?_, hfr⟩
          have h := h2.out (by simp)
          simp [h]
        · obtain ⟨hbl, htk⟩ := h1.out rfl
          by_cases hlt : k < s.length
          · have HT := Lib.hid htk
            clear htk
            have hltb : k < t.length := by omega
            obtain ⟨ba, oa, rfl, hca⟩ := (HS.out.fr (HFW.out.trans hfr.out)).at (i := k) (v := .string s[k]) (by simp [strRow, hlt])
            obtain ⟨bb, ob, rfl, hcb⟩ := (HTT.out.fr (HFW.out.trans hfr.out)).at (i := k) (v := .string (t[k]'hltb)) (by simp [strRow, hltb])
            have HX := Lib.hid (eqRow_step s t k hbl.symm hlt HT.out)
            generalize hx : s[k] = x at *
            generalize hy : t[k]'hltb = y at *
            clear hx hy
            have HBL := Lib.hid hbl
            clear hbl
            go_wp2_with fail
            go_quiet (fail)
            go_wp2
            go_roundg (s.length - (k + 1))
            case measure => omega
            case rel =>
              refine ⟨k + 1, decide (x = y), by omega, rfl, by go_num, ?_, ?_, ?_, ?_⟩
              · exact congrArg Value.bool (by simp [Bool.beq_eq_decide_eq]; exact ⟨fun h => ba_ext (by rw [← ByteArray.toList_eq, ← ByteArray.toList_eq, h]), fun h => by rw [h]⟩)
              · intro h
                exact ⟨HBL.out, HX.out.mp (of_decide_eq_true h)⟩
              · intro h e
                exact of_decide_eq_false h (HX.out.mpr (by rw [e]))
              · exact hfr.out.trans ((Fr.refl _).drewN nq)
          · obtain rfl : k = s.length := by omega
            have he : s = t := by rw [List.take_length] at htk; rw [← hbl, List.take_length] at htk; exact htk
            have HE := Lib.hid he
            clear he htk hbl
            go_wp2
            go_meet
            refine ⟨?_, hfr⟩
            simp [HE.out]
    case rest =>
      obtain ⟨rfl, HFC2⟩ := hcut
      clear HFW
      obtain ⟨i0, hi, hz0, hz1, hz2⟩ := info_parts infoString
      have hm2 := World.ownsRow_made (base := wc.heap.size) (size := 1) (e := 9) wc #[] 0 (Nat.le_refl _) (by decide) (by simp)
      have HFW := Lib.hid ((HF3.out.trans HFC.out).trans HFC2.out)
      have rs := HS.out.fr HFW.out
      have rt := HTT.out.fr HFW.out
      have HRT := Lib.hid rt
      clear rt
      go_upto_region 18 with fail
      go_wp2_with (at_builtin; refine wpList_append_rd rfl _ _ 36 rfl wc 9 i0 _ 16 Try.underlying36 hi hz0 hz1 hz2 rfl _ 0 [] rfl hm2 a2 s.length c2 (strRow s) rfl (by simp [strRow]) rs (strRow_one s) ?c1 ?c2 ((Fr.refl _).alloc _) ?_)
      case c1 => simp; unfold maxLen; omega
      case c2 => omega
      intro v4 w4 hown4 hfr4
      clear hm2 rs
      have rt := HRT.out
      go_wp2_with (at_builtin; refine wpList_append_rd rfl _ _ 36 rfl wc 9 i0 _ 16 Try.underlying36 hi hz0 hz1 hz2 rfl _ _ _ rfl hown4 a3 t.length c3 (strRow t) rfl (by simp [strRow]) rt (strRow_one t) ?c1 ?c2 hfr4 ?_)
      case c1 => unfold maxLen; omega
      case c2 => omega
      intro v5 w5 hown5 hfr5
      clear hown4 hfr4 rt HRT hi hz0 hz1 hz2
      obtain ⟨n, hn⟩ : ∃ n, n = s.length + t.length := ⟨_, rfl⟩
      rw [← hn] at hown5
      obtain ⟨L, hL⟩ : ∃ L, L = s ++ t := ⟨_, rfl⟩
      obtain ⟨a5, c5, rfl, hrd⟩ := own_rd hown5
      have HRD := Lib.hid (show RdRow w5 a5 (strRow L) by simpa [strRow, hL] using hrd)
      have hLn : L.length = n := by rw [hL, hn, List.length_append]
      have HL := Lib.hid hL
      have hn120 : n ≤ 120 := by omega
      clear hn hL
      have HF5 := Lib.hid hfr5
      clear hrd hown5 hfr5
      obtain rfl : n = L.length := hLn.symm
      go_wp2
      go_loopg [18, 105] L.length (fun g _ si wr => w5 = wr ∧ ∃ k : Nat, k ≤ L.length ∧ g = L.length - k ∧ si = .int .i64 k ∧ Hid (∀ x ∈ L.take k, x.size ≤ 4096))
      case atStart => exact ⟨rfl, 0, by omega, by omega, rfl, by intro x hx; simp at hx⟩
      case round =>
        obtain ⟨rfl, k, hk, rfl, rfl, hall⟩ := hrel
        by_cases hlt : k < L.length
        · obtain ⟨ba, oa, rfl, hca⟩ := HRD.out.at (i := k) (v := .string L[k]) (by simp [strRow, hlt])
          have HTK := Lib.hid (List.take_succ_eq_append_getElem hlt)
          generalize hx : L[k] = x at *
          clear hx
          by_cases hbig : x.size ≤ 4096
          · go_wp2
            go_roundg (L.length - (k + 1))
            case measure => omega
            case rel =>
              refine ⟨rfl, k + 1, by omega, rfl, by go_num, ?_⟩
              intro y hy
              rw [HTK.out] at hy
              rcases List.mem_append.mp hy with h | h
              · exact hall.out y h
              · rw [List.mem_singleton.mp h]; exact hbig
          · go_wp2
            go_ret
            exact ⟨rfl, HFW.out.trans HF5.out⟩
        · obtain rfl : k = L.length := by omega
          have HALL := Lib.hid (show ∀ x ∈ s ++ t, x.size ≤ 4096 by rw [← HL.out]; have := hall.out; rwa [List.take_length] at this)
          clear hall
          have HU5 := Lib.hid (HU3.out.fresh (by simp [IsW.local]) (HFC.out.trans (HFC2.out.trans HF5.out)))
          have HF5W := Lib.hid (HFW.out.trans HF5.out)
          clear HU3 HFC HFC2 HF5 HFW
          have hbs := bytesIn_le s (fun x hx => HALL.out x (List.mem_append_left _ hx))
          have hbt := bytesIn_le t (fun x hx => HALL.out x (List.mem_append_right _ hx))
          go_wp2_with fail
          have hq : Upd (fun _ => False) (Sep [IsW (g + 1 + 1 + 1) [], IsW (g + 1 + 1) [], IsW (g + 1) (encIs b), IsW g (encIs a)]) w1 w5 := HU5.out
          obtain ⟨S1, hW, hS1, hup⟩ := hq.callAt [_] (by simp [IsW.local])
          refine (writer_str _ [] S1 a2 c2 s _ hW (HS.out.fr HF5W.out) (fun b o e hn => apartRow hS1 HS.out hf1 b o e (by simpa [strRow] using hn)) (fun x hx => by have := HALL.out x (List.mem_append_left _ hx); omega) (by simp; omega)).mono ?_
          rintro e w6 ⟨rfl, hu⟩
          have HU6 := Lib.hid (hup _ _ hu)
          clear hu hup hS1 hW hq HU5
          rw [List.nil_append] at HU6
          go_wp2_with fail
          obtain ⟨S1, hW, hS1, hup⟩ := HU6.out.callAt [] (by simp [IsW.local])
          refine (writer_str _ [] S1 a3 c3 t _ hW (HTT.out.fr (hf1.trans HU6.out.fr)) (fun b o e hn => apartRow hS1 HTT.out hf1 b o e (by simpa [strRow] using hn)) (fun x hx => by have := HALL.out x (List.mem_append_right _ hx); omega) (by simp; omega)).mono ?_
          rintro e w7 ⟨rfl, hu⟩
          have HU7 := Lib.hid (hup _ _ hu)
          clear hu hup hS1 hW HU6
          rw [List.nil_append] at HU7
          have inLenOf : ∀ l : List ByteArray, (∀ x ∈ l, x.size ≤ 4096) → inLen (lists l) := fun l h y hy => by
            obtain ⟨x, hx, rfl⟩ := List.mem_map.mp hy
            have := h x hx
            simp
            omega
          have ils := inLenOf s (fun x hx => HALL.out x (List.mem_append_left _ hx))
          have ilt := inLenOf t (fun x hx => HALL.out x (List.mem_append_right _ hx))
          obtain ⟨xa, hxa⟩ : ∃ x : ByteArray, x = ⟨(encIs a).toArray⟩ := ⟨_, rfl⟩
          obtain ⟨xb, hxb⟩ : ∃ x : ByteArray, x = ⟨(encIs b).toArray⟩ := ⟨_, rfl⟩
          obtain ⟨xs, hxs⟩ : ∃ x : ByteArray, x = ⟨(encSs (lists s)).toArray⟩ := ⟨_, rfl⟩
          obtain ⟨xt, hxt⟩ : ∃ x : ByteArray, x = ⟨(encSs (lists t)).toArray⟩ := ⟨_, rfl⟩
          have h1 := bytes_beq hxa hxb (p := a = b) ⟨fun h => encIs_inj HIA.out HIB.out h, fun h => by rw [h]⟩
          have h2 := bytes_beq hxs hxt (p := s = t) ⟨fun h => lists_inj (encSs_inj ils ilt h), fun h => by rw [h]⟩
          clear inLenOf ils ilt
          have HXA := Lib.hid hxa
          have HXB := Lib.hid hxb
          have HXS := Lib.hid hxs
          have HXT := Lib.hid hxt
          clear hxa hxb hxs hxt
          have hq : Upd (fun _ => False) (Sep [IsW (g + 1 + 1 + 1) (encSs (lists t)), IsW (g + 1 + 1) (encSs (lists s)), IsW (g + 1) (encIs b), IsW g (encIs a)]) w1 w7 := HU7.out
          have HQ := Lib.hid hq
          clear hq HU7
          go_wp2_with fail
          obtain ⟨S1, hW, hS1, hup⟩ := HQ.out.callAt [_, _, _] (by simp [IsW.local])
          refine (writer_bytes _ (encIs a) S1 _ (by first | exact IsWF.of hW | exact hW)).mono ?_
          rintro e w8 ⟨rfl, hu⟩
          rw [← HXA.out]
          have HUw8 := Lib.hid (hup _ _ hu)
          clear hu hup hS1 hW HQ
          go_wp2_with fail
          obtain ⟨S1, hW, hS1, hup⟩ := HUw8.out.callAt [_, _] (by simp [IsW.local, IsWF.local])
          refine (writer_bytes _ (encIs b) S1 _ (by first | exact IsWF.of hW | exact hW)).mono ?_
          rintro e w9 ⟨rfl, hu⟩
          rw [← HXB.out]
          have HUw9 := Lib.hid (hup _ _ hu)
          clear hu hup hS1 hW HUw8
          go_wp2_with fail
          obtain ⟨S1, hW, hS1, hup⟩ := HUw9.out.callAt [_] (by simp [IsW.local, IsWF.local])
          refine (writer_bytes _ (encSs (lists s)) S1 _ (by first | exact IsWF.of hW | exact hW)).mono ?_
          rintro e w10 ⟨rfl, hu⟩
          rw [← HXS.out]
          have HUw10 := Lib.hid (hup _ _ hu)
          clear hu hup hS1 hW HUw9
          go_wp2_with fail
          obtain ⟨S1, hW, hS1, hup⟩ := HUw10.out.callAt [] (by simp [IsWF.local])
          refine (writer_bytes _ (encSs (lists t)) S1 _ (by first | exact IsWF.of hW | exact hW)).mono ?_
          rintro e w11 ⟨rfl, hu⟩
          rw [← HXT.out]
          have HUw11 := Lib.hid (hup _ _ hu)
          clear hu hup hS1 hW HUw10
          go_wp2
          go_ret
          refine ⟨by simp, hf1.trans HUw11.out.fr⟩

set_option maxHeartbeats 4000000 in
set_option maxRecDepth 100000 in
theorem pack_one_row (w : World) (a0 : Option Addr) (c0 : Nat) (a : List Int) (ma : a.length ≤ maxLen) (ha : RdRow w a0 (intRow a)) (ia : inI64 a)
    (a1 : Option Addr) (c1 : Nat) (b : List Int) (mb : b.length ≤ maxLen) (hb : RdRow w a1 (intRow b)) (ib : inI64 b)
    (a2 : Option Addr) (c2 : Nat) (s : List ByteArray) (ms : s.length ≤ maxLen) (hs : RdRow w a2 (strRow s)) (is : ∀ x ∈ s, x.size ≤ maxLen)
    (a3 : Option Addr) (c3 : Nat) (t : List ByteArray) (mt : t.length ≤ maxLen) (ht : RdRow w a3 (strRow t)) (it : ∀ x ∈ t, x.size ≤ maxLen) :
    Calls Try.prog 6 #[.slice a0 a.length c0, .slice a1 b.length c1, .slice a2 s.length c2, .slice a3 t.length c3] w fun e w' => e = .returned (.bool true) ∧ Fr w w' := by
  by_cases hsm : a.length ≤ 60 ∧ b.length ≤ 60 ∧ s.length ≤ 60 ∧ t.length ≤ 60
  · exact pack_one_small a0 a1 a2 a3 c0 c1 c2 c3 a b s t w ha hb hs ht ia ib is it hsm.1 hsm.2.1 hsm.2.2.1 hsm.2.2.2
  · clear ha hb hs ht ia ib is it
    unfold maxLen at ma mb ms mt
    go_enter Try.func6, Try.ntmps6
    go_wp2_with fail
    refine (pack_alive _).mono ?_
    rintro e w1 ⟨rfl, hf1⟩
    by_cases la : a.length ≤ 60 <;> by_cases lb : b.length ≤ 60 <;> by_cases ls : s.length ≤ 60 <;> by_cases lt : t.length ≤ 60 <;>
      first
      | exact (hsm ⟨la, lb, ls, lt⟩).elim
      | (clear hsm
         go_wp2_with fail
         go_ret
         exact ⟨rfl, hf1⟩)

end Go.Proofs.Ytkifcmlehiidiaa
