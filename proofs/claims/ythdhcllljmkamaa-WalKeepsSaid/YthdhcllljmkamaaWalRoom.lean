/- The walk of WalRoom. -/
import Derived.Test.YthdhcllljmkamaaWalGreat
import Derived.Test.YthdhcllljmkamaaOpen
namespace Go.Proofs.Ythdhcllljmkamaa
open Go.RowKit
set_option linter.unusedVariables false

/-- A log and its disk as one. -/
def LD (gl gd cnt : Nat) (st : DSt) : Asr := Sep [IsL gl gd cnt, IsD gd st]
theorem LD.local (gl gd cnt : Nat) (st : DSt) : LocalA (LD gl gd cnt st) := Sep.local _ (local_ld gl gd cnt st)
theorem local_rld (v : Value) (l : List (List UInt8)) (gl gd cnt : Nat) (st : DSt) : ∀ B ∈ [IsRows v l, LD gl gd cnt st], LocalA B := by
  intro B hB
  simp only [List.mem_cons, List.not_mem_nil, or_false] at hB
  rcases hB with rfl | rfl
  · exact IsRows.local v l
  · exact LD.local gl gd cnt st
theorem local_r (v : Value) (l : List (List UInt8)) : ∀ B ∈ [IsRows v l], LocalA B := by
  intro B hB
  simp only [List.mem_cons, List.not_mem_nil, or_false] at hB
  subst hB
  exact IsRows.local v l
theorem local_ld1 (gl gd cnt : Nat) (st : DSt) : ∀ B ∈ [LD gl gd cnt st], LocalA B := by
  intro B hB
  simp only [List.mem_cons, List.not_mem_nil, or_false] at hB
  subst hB
  exact LD.local gl gd cnt st
theorem keep_rld {v : Value} {l : List (List UInt8)} {gl gd cnt : Nat} {st : DSt} {w wc w' : World} (hU : Upd (fun _ => False) (Sep [IsRows v l, LD gl gd cnt st]) w wc) (hf : Fr wc w') : Upd (fun _ => False) (Sep [IsRows v l, LD gl gd cnt st]) w w' := Upd.fresh (local_rld v l gl gd cnt st) hU hf
theorem rld_start {gl gd cnt : Nat} {st : DSt} {w wc : World} (hU : Upd (fun _ => False) (Sep [IsL gl gd cnt, IsD gd st]) w wc) : Upd (fun _ => False) (Sep [IsRows (.slice none 0 0) [], LD gl gd cnt st]) w wc := by
  obtain ⟨S, hS, hst, hsub⟩ := hU
  exact ⟨S, ⟨fun _ => False, S, ⟨World.ownsRow_nil _ _ _ _, fun k => by simp [Value.ownBlock]⟩, ⟨S, fun _ => False, hS, fun _ h => h, fun _ _ h => h, fun k => by simp⟩, fun _ h => h.elim, fun k => by simp⟩, hst, hsub⟩
theorem rld_log {v : Value} {l : List (List UInt8)} {gl gd cnt : Nat} {st : DSt} {w wc : World} (hU : Upd (fun _ => False) (Sep [IsRows v l, LD gl gd cnt st]) w wc) :
    ∃ S, Sep [IsL gl gd cnt, IsD gd st] S wc ∧ ∀ cnt' st' w', Upd S (Sep [IsL gl gd cnt', IsD gd st']) wc w' → Upd (fun _ => False) (Sep [IsRows v l, LD gl gd cnt' st']) w w' := by
  obtain ⟨S, h1, k1⟩ := Upd.call (local_r v l) hU.swap
  exact ⟨S, h1, fun cnt' st' w' h => (k1 (LD gl gd cnt' st') w' h).swap⟩
theorem rld_rows {v : Value} {l : List (List UInt8)} {gl gd cnt : Nat} {st : DSt} {w wc : World} (hU : Upd (fun _ => False) (Sep [IsRows v l, LD gl gd cnt st]) w wc) :
    ∃ S, IsRows v l S wc ∧ ∀ v' l' w', Upd S (IsRows v' l') wc w' → Upd (fun _ => False) (Sep [IsRows v' l', LD gl gd cnt st]) w w' := by
  obtain ⟨S, h1, k1⟩ := Upd.call (local_ld1 gl gd cnt st) hU
  exact ⟨S, h1, fun v' l' w' h => k1 _ _ h⟩
theorem rld_flat {v : Value} {l : List (List UInt8)} {gl gd cnt : Nat} {st : DSt} {w wc : World} (hU : Upd (fun _ => False) (Sep [IsRows v l, LD gl gd cnt st]) w wc) : Upd (fun _ => False) (Sep [IsL gl gd cnt, IsRows v l, IsD gd st]) w wc := by
  have h := Upd.flat [IsL gl gd cnt, IsD gd st] (L := [IsRows v l]) hU.swap
  exact h.perm (List.Perm.cons _ (List.Perm.swap _ _ _))
theorem rows_append {v v' : Value} {l : List (List UInt8)} {r : List UInt8} {S : Nat → Prop} {w w' : World} {o : Obj} (h : IsRows v l S w) (hown : w'.ownsRow 0 9 1 v' (l ++ [r]).length (recRow (l ++ [r]))) (hg : (w.alloc o).grownBy w' v.ownBlock)
    (hat : v'.ownBlock = v.ownBlock ∨ v'.ownBlock = some (w.heap.size + 1)) : Upd S (IsRows v' (l ++ [r])) w w' := by
  refine ⟨_, ⟨hown, fun k => Iff.rfl⟩, ?_, ?_⟩
  · have h1 : Step S w (w.alloc o) := (Step.refl S w).alloc o
    exact h1.trans (Step.of_grown hg) (fun i hi => .inl ((h.2 i).2 hi))
  · intro k hk
    rcases hat with h1 | h1
    · exact .inl ((h.2 k).2 (hk.trans h1))
    · rw [h1] at hk
      injection hk with hk
      exact .inr (by omega)
theorem lAdd_ok {st : DSt} {s : List UInt8} (hd : st.down = false) (h : (lAdd st s).1 = 0) : (lAdd st s).2.all = st.all ++ wFrame s ∧ s.length ≤ 65535 := by
  unfold lAdd at h ⊢
  rw [if_neg (by rw [hd]; exact Bool.false_ne_true)] at h ⊢
  split at h
  · cases h
  · rename_i h1
    rw [if_neg h1]
    unfold dAppend at h ⊢
    rw [if_neg (by rw [hd]; exact Bool.false_ne_true)] at h ⊢
    split at h
    · cases h
    · rename_i h2
      rw [if_neg h2]
      exact ⟨by simp [DSt.all], by omega⟩
theorem lAdd_no {st : DSt} {s : List UInt8} (hd : st.down = false) (h : (lAdd st s).1 ≠ 0) : (lAdd st s).2 = st ∧ ((lAdd st s).1 = 3 ∨ (lAdd st s).1 = 6) := by
  unfold lAdd at h ⊢
  rw [if_neg (by rw [hd]; exact Bool.false_ne_true)] at h ⊢
  split at h
  · rename_i h1; rw [if_pos h1]; exact ⟨rfl, .inl rfl⟩
  · rename_i h1
    rw [if_neg h1]
    unfold dAppend at h ⊢
    rw [if_neg (by rw [hd]; exact Bool.false_ne_true)] at h ⊢
    split at h
    · rename_i h2; rw [if_pos h2]; exact ⟨rfl, .inr rfl⟩
    · exact absurd rfl h

set_option maxHeartbeats 8000000 in
set_option maxRecDepth 100000 in
theorem wal_room_law (w : World) (size : Int) (hsize : (Lit.int .i64 size).wf = true) (a : Option Addr) (cap : Nat) (ss : List ByteArray) (hm : ss.length ≤ maxLen) (hr : RdRow w a (strRow ss)) (hss : ∀ s ∈ ss, s.size ≤ maxLen) :
    Calls Try.prog 9 #[.int .i64 size, .slice a ss.length cap] w fun e w' => e = .returned (.bool true) ∧ Below w.heap.size w w' := by
  unfold maxLen at hm hss
  obtain ⟨i0, hi, hz0, hz1, hz2⟩ := info_parts infoStr
  clear hsize
  have HSS := Lib.hid hss
  clear hss
  go_enter Try.func9, Try.ntmps9
  go_wp2_with fail
  refine (wal_alive _).mono ?_
  rintro e w1 ⟨rfl, hf⟩
  have HF := Lib.hid hf
  have hr1 := hr.fr hf
  clear hf
  go_wp2_with fail
  go_loop [5, 23] (fun n i => ∃ (k q : Nat), k ≤ ss.length ∧ q ≤ 262144 ∧ i = .int .i64 k ∧ n = .int .i64 q ∧ Hid (∀ i (h : i < ss.length), i < k → ss[i].size ≤ 131072)) (fun _ i => (ss.length - intOf i).toNat)
  case atStart => exact ⟨0, 0, by omega, by omega, rfl, rfl, fun i _ h => by omega⟩
  case round =>
    obtain ⟨k, q, hk, hq, rfl, rfl, hall⟩ := hrel
    by_cases hlt : k < ss.length
    · obtain ⟨b, o, rfl, hcell⟩ := hr1.at (i := k) (v := .string ss[k]) (by simp [strRow, hlt])
      have HR := Lib.hid hr
      have HR1 := Lib.hid hr1
      have hsz := HSS.out ss[k] (List.getElem_mem hlt)
      clear hr hr1
      obtain ⟨s, hs⟩ : ∃ s, ss[k] = s := ⟨_, rfl⟩
      have HS := Lib.hid hs
      rw [hs] at hcell hsz
      clear hs
      by_cases hbig : s.size ≤ 131072
      · have h1 : decide (131072 < (s.size : Int)) = false := decide_eq_false (show ¬ (131072 : Int) < (s.size : Int) by omega)
        by_cases hbig2 : q + s.size ≤ 262144
        · have h2 : decide (262144 < (q : Int) + (s.size : Int)) = false := decide_eq_false (show ¬ (262144 : Int) < (q : Int) + (s.size : Int) by omega)
          go_wp2
          go_round
          case rel =>
            refine ⟨k + 1, q + s.size, by omega, by omega, by go_num, by go_num, fun i h hi => ?_⟩
            by_cases e : i = k
            · subst e; rw [HS.out]; exact hbig
            · exact hall.out i h (by omega)
          case measure => simp [intOf]; omega
        · have h2 : decide (262144 < (q : Int) + (s.size : Int)) = true := decide_eq_true (show (262144 : Int) < (q : Int) + (s.size : Int) by omega)
          go_wp2
          go_ret
          exact ⟨rfl, HF.out⟩
      · have h1 : decide (131072 < (s.size : Int)) = true := decide_eq_true (show (131072 : Int) < (s.size : Int) by omega)
        clear hbig
        go_wp2
        go_ret
        exact ⟨rfl, HF.out⟩
    · obtain rfl : k = ss.length := by omega
      have HALL : Hid (∀ i (h : i < ss.length), ss[i].size ≤ 131072) := fun i h => hall.out i h h
      clear hall hlt
      by_cases h40 : ss.length ≤ 40
      · have h41 : decide (40 < (ss.length : Int)) = false := decide_eq_false (show ¬ (40 : Int) < (ss.length : Int) by omega)
        go_wp2_with fail
        refine (d_new size _).mono ?_
        rintro e w2 ⟨rfl, hf, hd⟩
        have hU := Upd.back HF.out (Upd.new (L := []) (by simp) (Upd.start w1) hf _ hd (fun k hk => Nat.le_of_eq hk.symm))
        generalize w1.heap.size = gd at hU ⊢
        have HU := Lib.hid hU
        clear hf hd hU hr1
        obtain ⟨S1, h1, k1⟩ := open_step HU.out
        have K1 := Lib.hid k1
        clear k1
        go_wp2_with fail
        refine (wal_open gd _ S1 _ (dNew_wf size) rfl h1).mono ?_
        rintro e w3 ⟨gl, v, rfl, hu⟩
        have hsc : wScan (dNew size).all = ([], 0) := wScan_nil
        rw [hsc, open_new] at hu
        have HU1 := Lib.hid (rld_start (drop_rows (K1.out _ _ _ _ _ _ hu)))
        clear hu K1 h1 HU hsc
        go_wp2_with fail
        go_loopw [12, 52] (fun v i wr => ∃ (k cnt : Nat) (st : DSt) (out : List (List UInt8)), k ≤ ss.length ∧ cnt ≤ k ∧ out.length ≤ k ∧ i = .int .i64 k ∧ Hid (Upd (fun _ => False) (Sep [IsRows v out, LD gl gd cnt st]) w wr) ∧ Hid (st.down = false) ∧ Hid st.wf ∧ Hid (st.all = wFrames out) ∧ Hid (∀ s ∈ out, s.length ≤ 65535)) (fun _ i _ => (ss.length - intOf i).toNat)
        case atStart => exact ⟨0, 0, dNew size, [], by omega, by omega, Nat.zero_le _, rfl, HU1.out, rfl, dNew_wf size, rfl, fun s h => by cases h⟩
        case round =>
          obtain ⟨k, cnt, st, out, hk, hcnt, hol, rfl, hU, hdn, hwf, hfr, hlen⟩ := hrel
          by_cases hlt : k < ss.length
          · obtain ⟨b, o, rfl, hcell⟩ := (hr.fr hU.out.fr).at (i := k) (v := .string ss[k]) (by simp [strRow, hlt])
            have HR := Lib.hid hr
            have hsz := HALL.out k hlt
            clear hr
            obtain ⟨s, hs⟩ : ∃ s, ss[k] = s := ⟨_, rfl⟩
            rw [hs] at hcell hsz
            clear hs
            obtain ⟨S2, hS2, k2⟩ := rld_log hU.out
            have K2 := Lib.hid k2
            obtain ⟨_, S3, hd3, _⟩ := ld_parts hS2
            have hread := d_read_up gd st S3 _ hd3 hdn.out
            have HRD := Lib.hid hread
            clear k2 hd3 hread
            go_wp2_with fail
            refine HRD.out.mono ?_
            rintro e w4 ⟨rfl, rfl⟩
            go_wp2_with fail
            refine (wal_add gl gd cnt st s S2 _ hwf.out (by omega) (by omega) hS2).mono ?_
            rintro e w4 ⟨rfl, hu⟩
            have HU2 := Lib.hid (K2.out _ _ _ hu)
            clear hu K2 hS2 HRD hcell hU
            by_cases hok : (lAdd st s.data.toList).1 = 0
            · have hok2 := lAdd_ok hdn.out hok
              have HOK := Lib.hid hok2
              rw [hok] at HU2 ⊢
              have hdn2 : Hid ((lAdd st s.data.toList).2.down = false) := by show _ = _; rw [lAdd_down]; exact hdn.out
              have hwf2 : Hid ((lAdd st s.data.toList).2.wf) := lAdd_wf hwf.out _
              have HU3 : Hid (Upd (fun _ => False) (Sep [IsRows u12 out, LD gl gd (cnt + 1) (lAdd st s.data.toList).2]) w w4) := HU2.out
              clear HU2 hok hok2 hdn hwf
              generalize (lAdd st s.data.toList).2 = st2 at *
              obtain ⟨S4, hrow, k4⟩ := rld_rows HU3.out
              have HROW := Lib.hid hrow
              have K4 := Lib.hid k4
              have hown1 := hrow.1
              clear hrow k4
              go_wp2_with (at_builtin; refine wpList_append_own_at _ rfl _ _ 47 rfl 0 9 i0 (.string ByteArray.empty) 1 16 Try.underlying47 hi hz0 hz1 hz2 rfl (by decide) _ _ _ rfl (hown1.alloc _) ⟨w4.heap.size, 0, none⟩ 1 1 [.string s] rfl rfl ?c1 ?c2 ?c3 ?c4 ?c5 ?_)
              case c1 =>
                intro j u hj
                match j, hj with
                | 0, hj => simp at hj; subst hj; simp [Addr.add]
              case c2 => intro u hu; simp at hu; subst hu; rfl
              case c3 => unfold maxLen; omega
              case c4 => omega
              case c5 => omega
              intro v' w5 hown2 hgrow _ hat
              have hrr : recRow (out ++ [s.data.toList]) = recRow out ++ [.string s] := by rw [recRow_snoc, ba_of]
              have HU4 := Lib.hid (K4.out v' (out ++ [s.data.toList]) w5 (rows_append HROW.out (by rw [hrr, List.length_append, List.length_singleton]; exact hown2) hgrow hat))
              clear hown1 hown2 hgrow hat hrr K4 HROW HU3
              go_wp2
              go_roundw
              case rel => exact ⟨k + 1, cnt + 1, st2, out ++ [s.data.toList], by omega, by omega, by rw [List.length_append, List.length_singleton]; omega, by go_num, HU4.out, hdn2.out, hwf2.out, by show _ = _; rw [HOK.out.1, hfr.out, wFrames_append]; simp [wFrames], by
                intro t ht
                rcases List.mem_append.1 ht with h | h
                · exact hlen.out t h
                · simp at h; subst h; exact HOK.out.2⟩
              case measure => simp [intOf]; omega
            · obtain ⟨hsame, hcode⟩ := lAdd_no hdn.out hok
              have hcode2 : ((lAdd st s.data.toList).1 == 0) = false := by rw [beq_eq_false_iff_ne]; exact hok
              rw [hsame, if_neg hok] at HU2
              clear hsame hok
              generalize (lAdd st s.data.toList).1 = code at *
              obtain ⟨S4, hS4, _⟩ := rld_log HU2.out
              obtain ⟨_, S5, hd5, _⟩ := ld_parts hS4
              have hread := d_read_up gd st S5 _ hd5 hdn.out
              have HRD := Lib.hid hread
              clear hS4 hd5 hread hcode
              go_wp2_with fail
              refine HRD.out.mono ?_
              rintro e w5 ⟨rfl, rfl⟩
              go_wp2
              go_roundw
              case rel => exact ⟨k + 1, cnt, st, out, by omega, by omega, by omega, by go_num, HU2.out, hdn.out, hwf.out, hfr.out, hlen.out⟩
              case measure => simp [intOf]; omega
          · obtain rfl : k = ss.length := by omega
            have hsc : wScan st.all = (out, (wFrames out).length) := by
              rw [hfr.out]
              have h1 := wScan_frames out [] hlen.out
              rw [List.append_nil, wScan_nil] at h1
              simpa using h1
            have HU2 := Lib.hid (rld_flat hU.out)
            clear hU hlt
            obtain ⟨S2, hS2, k2⟩ := open_again HU2.out
            have K2 := Lib.hid k2
            clear k2
            go_wp2_with fail
            refine (wal_open gd st S2 _ hwf.out hdn.out hS2).mono ?_
            rintro e w4 ⟨gl2, v2, rfl, hu⟩
            rw [hsc] at hu
            have HU3 := Lib.hid (K2.out _ _ _ _ _ _ hu)
            clear hu K2 hS2 HU2 hsc
            obtain ⟨S3, hrows2⟩ := (HU3.out.swap).head
            obtain ⟨S4, hrows1⟩ := (HU3.out.perm (L' := [IsRows u12 out, IsL gl2 gd out.length, IsRows v2 out, IsD gd (lOpen st), IsL gl gd cnt]) (List.perm_middle (l₁ := [IsL gl2 gd out.length, IsRows v2 out, IsD gd (lOpen st), IsL gl gd cnt]) (l₂ := []))).head
            obtain ⟨ao2, c2, rfl, hrd2⟩ := hrows2.read
            obtain ⟨ao1, c1, rfl, hrd1⟩ := hrows1.read
            have hsame := ref_same ao2 ao1 c2 c1 out out w4 (by omega) (by omega) hrd2 hrd1
            simp only [decide_true] at hsame
            have HS := Lib.hid hsame
            have HFF := Lib.hid HU3.out.fr
            clear hrows2 hrows1 hrd2 hrd1 hsame HU3
            go_wp2_with fail
            refine HS.out.mono ?_
            rintro e w5 ⟨rfl, hf⟩
            have HF5 := Lib.hid (HFF.out.trans hf)
            clear hf
            go_wp2
            go_ret
            exact ⟨rfl, HF5.out⟩
      · have h41 : decide (40 < (ss.length : Int)) = true := decide_eq_true (show (40 : Int) < (ss.length : Int) by omega)
        go_wp2
        go_ret
        exact ⟨rfl, HF.out⟩

end Go.Proofs.Ythdhcllljmkamaa
