/- What is left of a log behind a cut of the power: plain mathematics. -/
import Derived.Test.YthdhcllljmkamaaWalOps
namespace Go.Proofs.Ythdhcllljmkamaa
set_option linter.unusedVariables false

theorem turnLast_append (u v : List UInt8) (x : UInt8) (hv : v ≠ []) : turnLast (u ++ v) x = u ++ turnLast v x := by
  have h : 0 < v.length := List.length_pos_iff.2 hv
  unfold turnLast
  rw [List.length_append]
  apply List.ext_getElem?
  intro i
  rw [List.getElem?_modify]
  by_cases hi : i < u.length
  · rw [List.getElem?_append_left hi, List.getElem?_append_left hi]
    have : ¬ (u.length + v.length - 1 = i) := by omega
    simp [this]
  · rw [List.getElem?_append_right (by omega), List.getElem?_append_right (by omega), List.getElem?_modify]
    by_cases he : u.length + v.length - 1 = i
    · have : v.length - 1 = i - u.length := by omega
      simp [he, this]
    · have : ¬ (v.length - 1 = i - u.length) := by omega
      simp [he, this]
theorem turnLast_zero (l : List UInt8) : turnLast l 0 = l := by
  unfold turnLast
  apply List.ext_getElem?
  intro i
  rw [List.getElem?_modify]
  split
  · cases h : l[i]? <;> simp
  · simp
theorem wScan_cut : ∀ (b : List (List UInt8)) (k : Nat) (x : UInt8), (∀ s ∈ b, s.length ≤ 65535) → k ≤ (wFrames b).length → ∃ j, (wScan (turnLast ((wFrames b).take k) x)).1 = b.take j
  | [], k, x, _, hk => ⟨0, by
      have : turnLast ((wFrames []).take k) x = [] := by simp [wFrames, turnLast]
      rw [this, wScan_none wNext_nil]; rfl⟩
  | s :: b, k, x, h, hk => by
    have hl := wFrame_len s
    have hs := h s (List.mem_cons_self ..)
    have e : wFrames (s :: b) = wFrame s ++ wFrames b := by simp [wFrames]
    rw [e] at hk ⊢
    rw [List.length_append] at hk
    rcases Nat.lt_trichotomy k (s.length + 6) with hlt | heq | hgt
    · refine ⟨0, ?_⟩
      have e2 : turnLast ((wFrame s ++ wFrames b).take k) x = ((wFrame s).take k).modify (k - 1) (· ^^^ x) := by
        rw [List.take_append_of_le_length (by omega)]
        unfold turnLast
        rw [List.length_take, Nat.min_eq_left (by omega)]
      rw [e2, wScan_none (wNext_torn s hs k hlt x)]
      rfl
    · have e2 : (wFrame s ++ wFrames b).take k = wFrame s := by rw [List.take_append_of_le_length (by omega), List.take_of_length_le (by omega)]
      rw [e2]
      by_cases hx : x = 0
      · subst hx
        refine ⟨1, ?_⟩
        have h3 := wNext_put s [] hs
        rw [List.append_nil] at h3
        rw [turnLast_zero, wScan_some h3, List.drop_of_length_le (by omega), wScan_none wNext_nil]
        rfl
      · refine ⟨0, ?_⟩
        have h3 := wNext_turned s hs x hx
        have e3 : turnLast (wFrame s) x = (wFrame s).modify (s.length + 5) (· ^^^ x) := by
          unfold turnLast
          rw [hl]
          rfl
        rw [e3, wScan_none h3]
        rfl
    · have e2 : (wFrame s ++ wFrames b).take k = wFrame s ++ (wFrames b).take (k - (s.length + 6)) := by
        rw [List.take_append, List.take_of_length_le (by omega), hl]
      have hne : (wFrames b).take (k - (s.length + 6)) ≠ [] := by
        apply List.ne_nil_of_length_pos
        rw [List.length_take]
        omega
      obtain ⟨j, hj⟩ := wScan_cut b (k - (s.length + 6)) x (fun t ht => h t (List.mem_cons_of_mem _ ht)) (by omega)
      refine ⟨j + 1, ?_⟩
      rw [e2, turnLast_append _ _ _ hne, wScan_some (wNext_put s _ hs), show (wFrame s ++ turnLast ((wFrames b).take (k - (s.length + 6))) x).drop (s.length + 6) = turnLast ((wFrames b).take (k - (s.length + 6))) x by rw [← hl, List.drop_left], hj]
      rfl
/-- What is opened behind a cut of the power: some of the records that were there, all that were safe at least. -/
theorem wScan_keeps (a b : List (List UInt8)) (h : ∀ s ∈ a ++ b, s.length ≤ 65535) (n : Nat) (x : UInt8) :
    ∃ m, a.length ≤ m ∧ m ≤ (a ++ b).length ∧ (wScan (wFrames a ++ turnLast ((wFrames b).take n) x)).1 = (a ++ b).take m := by
  have e : (wFrames b).take n = (wFrames b).take (min n (wFrames b).length) := by
    rcases Nat.le_total n (wFrames b).length with h1 | h1
    · rw [Nat.min_eq_left h1]
    · rw [Nat.min_eq_right h1, List.take_of_length_le h1, List.take_of_length_le (Nat.le_refl _)]
  rw [e]
  obtain ⟨j, hj⟩ := wScan_cut b (min n (wFrames b).length) x (fun s hs => h s (List.mem_append_right _ hs)) (Nat.min_le_right ..)
  refine ⟨a.length + min j b.length, Nat.le_add_right .., by rw [List.length_append]; omega, ?_⟩
  rw [wScan_frames a _ (fun s hs => h s (List.mem_append_left _ hs)), hj, List.take_append, List.take_of_length_le (Nat.le_add_right ..), Nat.add_sub_cancel_left]
  congr 1
  rcases Nat.le_total j b.length with h1 | h1
  · rw [Nat.min_eq_left h1]
  · rw [Nat.min_eq_right h1, List.take_of_length_le h1, List.take_of_length_le (Nat.le_refl _)]
theorem lAdd_fits {st : DSt} {s : List UInt8} (hd : st.down = false) (h : s.length ≤ 65535) (hr : st.all.length + (s.length + 6) ≤ st.size) : lAdd st s = (0, { st with loose := st.loose ++ wFrame s }) := by
  unfold lAdd dAppend
  rw [if_neg (by rw [hd]; exact Bool.false_ne_true), if_neg (by omega), if_neg (by rw [hd]; exact Bool.false_ne_true), if_neg (by rw [wFrame_len]; omega)]
/-- The state of a log of which some records are safe, and the next ones not. -/
def Kept (st : DSt) (l : List (List UInt8)) (f : Nat) : Prop := ∃ a b, l = a ++ b ∧ st.safe = wFrames a ∧ st.loose = wFrames b ∧ (f ≤ l.length → f ≤ a.length)
theorem Kept.add {st : DSt} {l : List (List UInt8)} {f : Nat} (h : Kept st l f) (s : List UInt8) (hf : f ≠ l.length + 1) : Kept { st with loose := st.loose ++ wFrame s } (l ++ [s]) f := by
  obtain ⟨a, b, rfl, h1, h2, h3⟩ := h
  refine ⟨a, b ++ [s], by rw [List.append_assoc], h1, ?_, fun h => h3 ?_⟩
  · show st.loose ++ wFrame s = _
    rw [h2, wFrames_append]
    simp [wFrames]
  · rw [List.length_append] at h
    simp only [List.length_cons, List.length_nil] at h
    omega
theorem Kept.force {st : DSt} {l : List (List UInt8)} {f : Nat} (h : Kept st l f) (s : List UInt8) (hf : f = l.length + 1) (st' : DSt) (hs : st'.safe = st.all ++ wFrame s) (hl : st'.loose = []) : Kept st' (l ++ [s]) f := by
  obtain ⟨a, b, rfl, h1, h2, h3⟩ := h
  refine ⟨(a ++ b) ++ [s], [], by simp, ?_, hl, fun _ => ?_⟩
  · rw [hs, wFrames_append, wFrames_append]
    unfold DSt.all
    rw [h1, h2]
    simp [wFrames]
  · rw [hf]; simp only [List.length_append, List.length_cons, List.length_nil]; omega
theorem Kept.all {st : DSt} {l : List (List UInt8)} {f : Nat} (h : Kept st l f) : st.all = wFrames l := by
  obtain ⟨a, b, rfl, h1, h2, h3⟩ := h
  unfold DSt.all
  rw [h1, h2, wFrames_append]
/-- What is opened behind the cut. -/
theorem Kept.cut {st : DSt} {l : List (List UInt8)} {f : Nat} (h : Kept st l f) (hd : st.down = false) (hf : f ≤ l.length) (hl : ∀ s ∈ l, s.length ≤ 65535) (n : Int) (x : UInt8) :
    ∃ m, f ≤ m ∧ m ≤ l.length ∧ (wScan (dOn (dOff st n x)).all).1 = l.take m := by
  obtain ⟨a, b, rfl, h1, h2, h3⟩ := h
  obtain ⟨m, k1, k2, k3⟩ := wScan_keeps a b hl (max n 0).toNat x
  refine ⟨m, Nat.le_trans (h3 hf) k1, k2, ?_⟩
  rw [← k3]
  have e1 : dOff st n x = { st with down := true, loose := turnLast (st.loose.take (max n 0).toNat) x } := by
    unfold dOff
    rw [if_neg (by rw [hd]; exact Bool.false_ne_true)]
  rw [e1]
  unfold dOn
  rw [if_pos rfl]
  show (wScan ((st.safe ++ turnLast (st.loose.take (max n 0).toNat) x) ++ [])).1 = _
  rw [List.append_nil, h1, h2]

end Go.Proofs.Ythdhcllljmkamaa
