/- Records with the same bytes are the same. -/
import Derived.Test.YtoanelahjgaojaaPackDec
import Derived.Test.YtoanelahjgaojaaRecSame
namespace Go.Proofs.Ytoanelahjgaojaa
open Go.RowKit
set_option linter.unusedVariables false

theorem encB_cut {a b : Bool} {r r' : List UInt8} (h : encB a ++ r = encB b ++ r') : a = b ∧ r = r' := by
  have h1 := encI_cut (n := if a then 1 else 0) (m := if b then 1 else 0) (by cases a <;> decide) (by cases b <;> decide) h
  refine ⟨?_, h1.2⟩
  have := h1.1
  cases a <;> cases b <;> simp at this ⊢
theorem encIs_cut : ∀ {a b : List Int} {r r' : List UInt8}, a.length = b.length → (∀ n ∈ a, in64 n) → (∀ n ∈ b, in64 n) → encIs a ++ r = encIs b ++ r' → a = b ∧ r = r'
  | [], [], r, r', _, _, _, h => ⟨rfl, h⟩
  | [], _ :: _, _, _, hl, _, _, _ => by cases hl
  | _ :: _, [], _, _, hl, _, _, _ => by cases hl
  | x :: a, y :: b, r, r', hl, ha, hb, h => by
    have e1 : encIs (x :: a) ++ r = encI x ++ (encIs a ++ r) := by simp [encIs]
    have e2 : encIs (y :: b) ++ r' = encI y ++ (encIs b ++ r') := by simp [encIs]
    rw [e1, e2] at h
    obtain ⟨h1, h2⟩ := encI_cut (ha x (List.mem_cons_self ..)) (hb y (List.mem_cons_self ..)) h
    obtain ⟨h3, h4⟩ := encIs_cut (by simpa using hl) (fun n hn => ha n (List.mem_cons_of_mem _ hn)) (fun n hn => hb n (List.mem_cons_of_mem _ hn)) h2
    exact ⟨by rw [h1, h3], h4⟩
theorem encSb_cut {s t : ByteArray} {r r' : List UInt8} (hs : s.size ≤ 140737488351232) (ht : t.size ≤ 140737488351232) (h : encS s.data.toList ++ r = encS t.data.toList ++ r') : s = t ∧ r = r' := by
  obtain ⟨h1, h2⟩ := encS_cut (by rw [ba_len]; omega) (by rw [ba_len]; omega) h
  exact ⟨ba_ext h1, h2⟩
theorem encWs_cut : ∀ {a b : List PWrite} {r r' : List UInt8}, a.length = b.length → (∀ w ∈ a, w.key.size ≤ 140737488351232 ∧ w.val.size ≤ 140737488351232) → (∀ w ∈ b, w.key.size ≤ 140737488351232 ∧ w.val.size ≤ 140737488351232) → encWs a ++ r = encWs b ++ r' → a = b ∧ r = r'
  | [], [], r, r', _, _, _, h => ⟨rfl, h⟩
  | [], _ :: _, _, _, hl, _, _, _ => by cases hl
  | _ :: _, [], _, _, hl, _, _, _ => by cases hl
  | x :: a, y :: b, r, r', hl, ha, hb, h => by
    have e1 : encWs (x :: a) ++ r = encS x.key.data.toList ++ (encS x.val.data.toList ++ (encB x.del ++ (encWs a ++ r))) := by simp [encWs, encW]
    have e2 : encWs (y :: b) ++ r' = encS y.key.data.toList ++ (encS y.val.data.toList ++ (encB y.del ++ (encWs b ++ r'))) := by simp [encWs, encW]
    rw [e1, e2] at h
    have hx := ha x (List.mem_cons_self ..)
    have hy := hb y (List.mem_cons_self ..)
    obtain ⟨h1, h⟩ := encSb_cut hx.1 hy.1 h
    obtain ⟨h2, h⟩ := encSb_cut hx.2 hy.2 h
    obtain ⟨h3, h⟩ := encB_cut h
    obtain ⟨h4, h5⟩ := encWs_cut (by simpa using hl) (fun n hn => ha n (List.mem_cons_of_mem _ hn)) (fun n hn => hb n (List.mem_cons_of_mem _ hn)) h
    refine ⟨?_, h5⟩
    cases x
    cases y
    simp only at h1 h2 h3
    rw [h1, h2, h3, h4]
theorem encHs_cut : ∀ {a b : List PHold} {r r' : List UInt8}, a.length = b.length → (∀ w ∈ a, w.key.size ≤ 140737488351232 ∧ in64 w.mode) → (∀ w ∈ b, w.key.size ≤ 140737488351232 ∧ in64 w.mode) → encHs a ++ r = encHs b ++ r' → a = b ∧ r = r'
  | [], [], r, r', _, _, _, h => ⟨rfl, h⟩
  | [], _ :: _, _, _, hl, _, _, _ => by cases hl
  | _ :: _, [], _, _, hl, _, _, _ => by cases hl
  | x :: a, y :: b, r, r', hl, ha, hb, h => by
    have e1 : encHs (x :: a) ++ r = encS x.key.data.toList ++ (encI x.mode ++ (encHs a ++ r)) := by simp [encHs, encH]
    have e2 : encHs (y :: b) ++ r' = encS y.key.data.toList ++ (encI y.mode ++ (encHs b ++ r')) := by simp [encHs, encH]
    rw [e1, e2] at h
    have hx := ha x (List.mem_cons_self ..)
    have hy := hb y (List.mem_cons_self ..)
    obtain ⟨h1, h⟩ := encSb_cut hx.1 hy.1 h
    obtain ⟨h2, h⟩ := encI_cut hx.2 hy.2 h
    obtain ⟨h4, h5⟩ := encHs_cut (by simpa using hl) (fun n hn => ha n (List.mem_cons_of_mem _ hn)) (fun n hn => hb n (List.mem_cons_of_mem _ hn)) h
    refine ⟨?_, h5⟩
    cases x
    cases y
    simp only at h1 h2
    rw [h1, h2, h4]
theorem encRec_inj {x y : PRec} (hs : x.sized) (ht : y.sized) (hx : x.kindOk) (hy : y.kindOk) (h : encRec x = encRec y) : x = y := by
  obtain ⟨s1, s2, s3, s4, s5, s6, s7, s8, s9, s10, s11, s12⟩ := hs
  obtain ⟨t1, t2, t3, t4, t5, t6, t7, t8, t9, t10, t11, t12⟩ := ht
  unfold encRec headRec at h
  simp only [List.append_assoc] at h
  obtain ⟨h1, h⟩ := encI_cut s1 t1 h
  obtain ⟨h2, h⟩ := encIs_cut (a := [x.node, x.epoch, x.num]) (b := [y.node, y.epoch, y.num]) rfl (fun n hn => by simp at hn; rcases hn with rfl | rfl | rfl <;> assumption) (fun n hn => by simp at hn; rcases hn with rfl | rfl | rfl <;> assumption) h
  obtain ⟨h3, h⟩ := encI_cut (n := (x.nodes.length : Int)) (m := (y.nodes.length : Int)) ⟨by omega, by omega⟩ ⟨by omega, by omega⟩ h
  obtain ⟨h4, h⟩ := encIs_cut (by omega) s5 t5 h
  injection h2 with e1 h2
  injection h2 with e2 h2
  injection h2 with e3 _
  rw [← h1] at h
  by_cases hk : x.kind = 1
  · rw [if_pos hk, if_pos hk] at h
    unfold partsRec at h
    simp only [List.append_assoc] at h
    obtain ⟨h5, h⟩ := encI_cut (n := (x.writes.length : Int)) (m := (y.writes.length : Int)) ⟨by omega, by omega⟩ ⟨by omega, by omega⟩ h
    obtain ⟨h6, h⟩ := encWs_cut (by omega) s11 t11 h
    obtain ⟨h7, h⟩ := encI_cut (n := (x.holds.length : Int)) (m := (y.holds.length : Int)) ⟨by omega, by omega⟩ ⟨by omega, by omega⟩ h
    obtain ⟨h8, h⟩ := encHs_cut (by omega) (fun w hw => ⟨s12 w hw, s6 w hw⟩) (fun w hw => ⟨t12 w hw, t6 w hw⟩) h
    obtain ⟨h9, _⟩ := encSb_cut (r := []) (r' := []) s10 t10 (by simpa using h)
    cases x
    cases y
    simp only at *
    subst h1 e1 e2 e3 h4 h6 h8 h9
    rfl
  · have bare : ∀ z : PRec, z.kindOk → z.kind ≠ 1 → z.bare := fun z hz hn => by
      rcases hz with hz | ⟨_, hz⟩ | ⟨_, hz, _⟩
      · exact absurd hz hn
      · exact hz
      · exact hz
    obtain ⟨a1, a2, a3⟩ := bare x hx hk
    obtain ⟨b1, b2, b3⟩ := bare y hy (by rw [← h1]; exact hk)
    cases x
    cases y
    simp only at *
    subst h1 e1 e2 e3 h4 a1 a2 a3 b1 b2 b3
    rfl
def aliveRec : PRec := ⟨2, 1, 2, 3, [], [], [], ⟨#[]⟩⟩
theorem enc_alive : encRec aliveRec = [4, 2, 4, 6, 0] := by
  have e : encRec aliveRec = varint 4 ++ (varint 2 ++ (varint 4 ++ (varint 6 ++ varint 0))) := by
    unfold encRec headRec aliveRec
    simp [encIs, encI, zig]
  rw [e, varint_small (by decide), varint_small (by decide), varint_small (by decide), varint_small (by decide)]
  rfl

end Go.Proofs.Ytoanelahjgaojaa
