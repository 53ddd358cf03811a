/- The walks of DiskDoes. -/
import Derived.Test.YthdhcllljmkamaaDiskAlive
namespace Go.Proofs.Ythdhcllljmkamaa
open Go.RowKit
set_option linter.unusedVariables false

theorem sep_call {L : List Asr} {w wc : World} (hU : Upd (fun _ => False) (Sep L) w wc) :
    ∃ S, Sep L S wc ∧ ∀ L' w', Upd S (Sep L') wc w' → Upd (fun _ => False) (Sep L') w w' := by
  obtain ⟨S, hS, hst, hsub⟩ := hU
  exact ⟨S, hS, fun L' w' h => Upd.trans' (A := Sep L) ⟨S, hS, hst, hsub⟩ hS hst hsub h⟩
/-- Both new disks. -/
theorem both_new {w w1 w2 w3 : World} {st : DSt} (hf : Fr w w1) (hf2 : Fr w1 w2) (hd : IsD w1.heap.size st (fun k => k = w1.heap.size) w2) (hf3 : Fr w2 w3) (hm : IsM w2.heap.size st (fun k => k = w2.heap.size) w3) :
    Upd (fun _ => False) (Sep [IsD w1.heap.size st, IsM w2.heap.size st]) w w3 := by
  have h1 := Upd.new (L := []) (by simp) (Upd.start w1) hf2 _ hd (fun k hk => Nat.le_of_eq hk.symm)
  have h2 := Upd.new (L := [IsD w1.heap.size st]) (local1d _ st) h1 hf3 _ hm (fun k hk => Nat.le_of_eq hk.symm)
  exact (h2.swap).back hf
theorem keep2 {gd gm : Nat} {st : DSt} {w wc w' : World} (hU : Upd (fun _ => False) (Sep [IsD gd st, IsM gm st]) w wc) (hf : Fr wc w') : Upd (fun _ => False) (Sep [IsD gd st, IsM gm st]) w w' := Upd.fresh (local2 gd gm st st) hU hf
theorem plays_boots (n : Int) (cs : List DCall) (k : Nat) (h : cs.length ≤ 60) : (dPlays (dNew n) (cs.take k)).boots ≤ 1000000 := by
  have h1 := dPlays_boots (dNew n) (cs.take k)
  have h2 : (cs.take k).length ≤ cs.length := List.length_take_le' ..
  have h3 : (dNew n).boots = 1 := rfl
  omega

set_option maxHeartbeats 2000000 in
theorem disk_does_law (size : Int) (a : Option Addr) (cap : Nat) (cs : List DCall) (w : World) (hm : cs.length ≤ 140737488351232) (hr : RdRow w a (callRow cs)) :
    Calls Try.prog 5 #[.int .i64 size, .slice a cs.length cap] w fun e w' => e = .returned (.bool true) ∧ Fr w w' := by
  go_enter Try.func5, Try.ntmps5
  go_wp2_with fail
  refine (disk_alive _).mono ?_
  rintro e w1 ⟨rfl, hf⟩
  go_wp2_with fail
  refine (disk_great a cap cs _ hm (hr.fr hf)).mono ?_
  rintro e w2 ⟨r, rfl, hf2, hmod⟩
  have HF := Lib.hid (hf.trans hf2)
  have HM := Lib.hid hmod
  clear hf hf2 hmod
  cases r
  · have hmod := HM.out rfl
    have h60 := hmod.1
    have HM2 := Lib.hid hmod
    clear HM hmod
    go_wp2_with fail
    refine (d_new size _).mono ?_
    rintro e w3 ⟨rfl, hf3, hd⟩
    go_wp2_with fail
    refine (m_new size _).mono ?_
    rintro e w4 ⟨rfl, hf4, hm4⟩
    have HU := Lib.hid (both_new HF.out hf3 hd hf4 hm4)
    generalize w2.heap.size = gd at HU ⊢
    generalize w3.heap.size = gm at HU ⊢
    clear hf3 hd hf4 hm4
    go_wp2_with fail
    obtain ⟨S, hS, _⟩ := sep_call HU.out
    refine (disk_same gd gm _ S _ (dNew_wf size) hS).mono ?_
    rintro e w5 ⟨rfl, n, rfl⟩
    have HU1 := Lib.hid (keep2 HU.out ((Fr.refl w4).drewN n))
    clear HU hS HF
    go_wp2_with fail
    go_loopw [24] (fun i wr => ∃ k : Nat, k ≤ cs.length ∧ i = .int .i64 k ∧ Hid (Upd (fun _ => False) (Sep [IsD gd (dPlays (dNew size) (cs.take k)), IsM gm (dPlays (dNew size) (cs.take k))]) w wr)) (fun i _ => (cs.length - intOf i).toNat)
    case atStart => exact ⟨0, by omega, rfl, HU1.out⟩
    case round =>
      obtain ⟨k, hk, rfl, hU⟩ := hrel
      have hwf := dPlays_wf (dNew_wf size) (cs.take k)
      have hbo := plays_boots size cs k h60
      by_cases hlt : k < cs.length
      · have hs := HM2.out.2 k hlt
        have HPS := Lib.hid (dPlays_succ (dNew size) cs k hlt)
        obtain ⟨b, o, rfl, x0, x1, x2, x3⟩ := rdCalls_at (hr.fr hU.out.fr) hlt
        have HR := Lib.hid hr
        clear hr
        generalize dPlays (dNew size) (cs.take k) = st at *
        obtain ⟨c, hc⟩ : ∃ c, cs[k] = c := ⟨_, rfl⟩
        rw [hc] at x0 x1 x2 x3 hs HPS
        clear hc
        go_wp2_with fail
        obtain ⟨S, hS, kS⟩ := sep_call (keep2 hU.out ((Fr.refl wr).alloc (Obj.cells #[Value.int IntKind.i64 c.kind, Value.string c.s, Value.int IntKind.i64 c.n, Value.int IntKind.u8 (c.turn.toNat : Int)] 30)))
        have KS := Lib.hid kS
        clear kS
        refine (disk_does gd gm st c S _ hwf hbo hs hS).mono ?_
        rintro e w6 ⟨rfl, hu⟩
        have HU2 := Lib.hid (KS.out _ _ hu)
        clear KS hu hS
        go_wp2_with fail
        obtain ⟨S3, hS3, _⟩ := sep_call HU2.out
        refine (disk_same gd gm _ S3 _ (dPlay_wf hwf c) hS3).mono ?_
        rintro e w7 ⟨rfl, n, rfl⟩
        have HU3 := Lib.hid (keep2 HU2.out ((Fr.refl w6).drewN n))
        clear HU2 hS3 x0 x1 x2 x3
        go_wp2
        go_roundw
        case rel => exact ⟨k + 1, by omega, by go_num, by rw [HPS.out]; exact HU3.out⟩
        case measure => simp [intOf]; omega
      · obtain rfl : k = cs.length := by omega
        have HFF := Lib.hid hU.out.fr
        clear hU hwf hbo
        go_wp2_with fail
        refine (disk_nil_off 1 0 _).mono ?_
        rintro e w' ⟨rfl, rfl⟩
        go_wp2_with fail
        refine (disk_nil_on _).mono ?_
        rintro e w' ⟨rfl, rfl⟩
        go_wp2_with fail
        refine (disk_nil_append _ _).mono ?_
        rintro e w' ⟨rfl, rfl⟩
        go_wp2_with fail
        refine (disk_nil_sync _).mono ?_
        rintro e w' ⟨rfl, rfl⟩
        go_wp2_with fail
        refine (disk_nil_trim _ _).mono ?_
        rintro e w' ⟨rfl, rfl⟩
        go_wp2_with fail
        refine (disk_nil_read _).mono ?_
        rintro e w' ⟨rfl, rfl⟩
        go_wp2_with fail
        refine (disk_nil_down _).mono ?_
        rintro e w' ⟨rfl, rfl⟩
        go_wp2_with fail
        refine (disk_nil_nums _).1.mono ?_
        rintro e w' ⟨rfl, rfl⟩
        go_wp2_with fail
        refine (disk_nil_nums _).2.1.mono ?_
        rintro e w' ⟨rfl, rfl⟩
        go_wp2_with fail
        refine (disk_nil_nums _).2.2.mono ?_
        rintro e w' ⟨rfl, rfl⟩
        go_wp2
        go_ret
        exact ⟨rfl, HFF.out⟩
  · go_wp2
    go_ret
    exact ⟨rfl, HF.out⟩

theorem disk_does_row (w : World) (size : Int) (hsize : (Lit.int .i64 size).wf = true) (a : Option Addr) (cap : Nat) (cs : List DCall) (hm : cs.length ≤ 140737488351232) (hr : RdRow w a (callRow cs)) :
    Calls Try.prog 5 #[.int .i64 size, .slice a cs.length cap] w fun e w' => e = .returned (.bool true) ∧ Below w.heap.size w w' := disk_does_law size a cap cs w hm hr

end Go.Proofs.Ythdhcllljmkamaa
