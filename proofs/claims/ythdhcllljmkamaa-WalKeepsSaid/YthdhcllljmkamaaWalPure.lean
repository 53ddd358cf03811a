/- What a log's bytes are: plain mathematics, no program in sight. -/
import Derived.Test.YthdhcllljmkamaaCrcPure
namespace Go.Proofs.Ythdhcllljmkamaa
set_option linter.unusedVariables false

def wHead (n : Nat) : List UInt8 := [UInt8.ofNat (n / 256), UInt8.ofNat n]
def wFrame (s : List UInt8) : List UInt8 := (wHead s.length ++ s) ++ crcTail (crcOf (wHead s.length ++ s))
theorem crcTail_len (c : Nat) : (crcTail c).length = 4 := rfl
theorem wFrame_len (s : List UInt8) : (wFrame s).length = s.length + 6 := by
  unfold wFrame
  rw [List.length_append, List.length_append, crcTail_len]
  show 2 + s.length + 4 = _
  omega
def wNum (l : List UInt8) : Nat := (l.getD 0 0).toNat * 256 + (l.getD 1 0).toNat
theorem wNum_lt (l : List UInt8) : wNum l ≤ 65535 := by
  unfold wNum
  have := (l.getD 0 0).toNat_lt
  have := (l.getD 1 0).toNat_lt
  omega
/-- The record with which bytes begin. -/
def wNext (l : List UInt8) : Option (List UInt8) :=
  if l.length < 6 ∨ l.length < wNum l + 6 then none else if crcGood (l.take (wNum l + 6)) = true then some ((l.take (wNum l + 2)).drop 2) else none
theorem wNext_len {l r : List UInt8} (h : wNext l = some r) : r.length = wNum l ∧ wNum l + 6 ≤ l.length := by
  unfold wNext at h
  split at h
  · cases h
  · rename_i h1
    split at h
    · injection h with h
      rw [← h, List.length_drop, List.length_take]
      omega
    · cases h
def wScan (l : List UInt8) : List (List UInt8) × Nat :=
  match h : wNext l with
  | none => ([], 0)
  | some r => ((r :: (wScan (l.drop (r.length + 6))).1), r.length + 6 + (wScan (l.drop (r.length + 6))).2)
termination_by l.length
decreasing_by
  have := wNext_len h
  rw [List.length_drop]
  omega
theorem wScan_none {l : List UInt8} (h : wNext l = none) : wScan l = ([], 0) := by
  rw [wScan]
  split
  · rfl
  · rename_i r h2; rw [h] at h2; cases h2
theorem wScan_some {l r : List UInt8} (h : wNext l = some r) : wScan l = (r :: (wScan (l.drop (r.length + 6))).1, r.length + 6 + (wScan (l.drop (r.length + 6))).2) := by
  rw [wScan]
  split
  · rename_i h2; rw [h] at h2; cases h2
  · rename_i r2 h2
    rw [h] at h2
    injection h2 with h2
    subst h2
    rfl
theorem wScan_le : ∀ (n : Nat) (l : List UInt8), l.length ≤ n → (wScan l).2 ≤ l.length ∧ (wScan l).1.length ≤ l.length
  | n, l, hn => by
    cases h : wNext l with
    | none => rw [wScan_none h]; exact ⟨Nat.zero_le _, Nat.zero_le _⟩
    | some r =>
      have h1 := wNext_len h
      cases n with
      | zero => omega
      | succ n =>
        have ih := wScan_le n (l.drop (r.length + 6)) (by rw [List.length_drop]; omega)
        rw [List.length_drop] at ih
        rw [wScan_some h]
        simp only [List.length_cons]
        omega
/-- Where a loop of rounds stands: what is behind a place, and what the whole comes to. -/
theorem wScan_round {l r : List UInt8} {out : List (List UInt8)} {at_ : Nat} (h : wScan l = (out ++ (wScan (l.drop at_)).1, at_ + (wScan (l.drop at_)).2)) (hr : wNext (l.drop at_) = some r) :
    wScan l = ((out ++ [r]) ++ (wScan (l.drop (at_ + (r.length + 6)))).1, (at_ + (r.length + 6)) + (wScan (l.drop (at_ + (r.length + 6)))).2) := by
  rw [wScan_some hr, List.drop_drop] at h
  rw [h]
  simp only [List.append_assoc, List.singleton_append, Prod.mk.injEq, true_and]
  omega
theorem wScan_stop {l : List UInt8} {out : List (List UInt8)} {at_ : Nat} (h : wScan l = (out ++ (wScan (l.drop at_)).1, at_ + (wScan (l.drop at_)).2)) (hr : wNext (l.drop at_) = none) : wScan l = (out, at_) := by
  rw [wScan_none hr] at h
  rw [h]
  simp

/-- The first bytes of a frame. -/
theorem head2 (l : List UInt8) (h : 2 ≤ l.length) : l.take 2 = wHead (wNum l) := by
  match l, h with
  | a :: b :: l, _ =>
    have ha := a.toNat_lt
    have hb := b.toNat_lt
    show [a, b] = [UInt8.ofNat ((a.toNat * 256 + b.toNat) / 256), UInt8.ofNat (a.toNat * 256 + b.toNat)]
    rw [show (a.toNat * 256 + b.toNat) / 256 = a.toNat by omega]
    congr 1
    · simp
    · congr 1
      apply UInt8.toNat_inj.1
      rw [UInt8.toNat_ofNat']
      omega
/-- The reference's test: what stands there is the frame of what stands within. -/
theorem wNext_frame (l : List UInt8) (h6 : 6 ≤ l.length) (hn : wNum l + 6 ≤ l.length) : crcGood (l.take (wNum l + 6)) = true ↔ wFrame ((l.take (wNum l + 2)).drop 2) = l.take (wNum l + 6) := by
  have hl : (l.take (wNum l + 6)).length = wNum l + 6 := by rw [List.length_take]; omega
  have hb : (l.take (wNum l + 6)).take (wNum l + 2) = l.take (wNum l + 2) := by rw [List.take_take, Nat.min_eq_left (by omega)]
  have hbody : wHead ((l.take (wNum l + 2)).drop 2).length ++ (l.take (wNum l + 2)).drop 2 = l.take (wNum l + 2) := by
    have e1 : ((l.take (wNum l + 2)).drop 2).length = wNum l := by rw [List.length_drop, List.length_take]; omega
    rw [e1, ← head2 l (by omega)]
    have e2 : l.take 2 = (l.take (wNum l + 2)).take 2 := by rw [List.take_take, Nat.min_eq_left (by omega)]
    rw [e2, List.take_append_drop]
  unfold wFrame
  rw [hbody]
  unfold crcGood
  rw [hl, show wNum l + 6 - 4 = wNum l + 2 by omega, hb]
  constructor
  · intro h
    simp only [Bool.and_eq_true, decide_eq_true_eq, beq_iff_eq] at h
    rw [h.2, ← hb, List.take_append_drop]
  · intro h
    simp only [Bool.and_eq_true, decide_eq_true_eq, beq_iff_eq]
    refine ⟨by omega, ?_⟩
    have := List.take_append_drop (wNum l + 2) (l.take (wNum l + 6))
    rw [hb] at this
    exact List.append_cancel_left (h.trans this.symm)

theorem wHead_num (n : Nat) (h : n ≤ 65535) (r : List UInt8) : wNum (wHead n ++ r) = n := by
  show (UInt8.ofNat (n / 256)).toNat * 256 + (UInt8.ofNat n).toNat = n
  rw [UInt8.toNat_ofNat', UInt8.toNat_ofNat']
  omega
theorem wFrame_num (s rest : List UInt8) (h : s.length ≤ 65535) : wNum (wFrame s ++ rest) = s.length := by
  unfold wFrame
  rw [List.append_assoc, List.append_assoc]
  exact wHead_num _ h _
theorem wFrame_good (s : List UInt8) : crcGood (wFrame s) = true := crcGood_append _
theorem wNext_put (s rest : List UInt8) (h : s.length ≤ 65535) : wNext (wFrame s ++ rest) = some s := by
  have hl := wFrame_len s
  have hn := wFrame_num s rest h
  unfold wNext
  rw [hn, if_neg (by rw [List.length_append]; omega)]
  have ht : (wFrame s ++ rest).take (s.length + 6) = wFrame s := by rw [← hl, List.take_left]
  have ht2 : (wFrame s ++ rest).take (s.length + 2) = wHead s.length ++ s := by
    unfold wFrame
    rw [List.append_assoc, List.take_append_of_le_length (by show s.length + 2 ≤ (wHead s.length ++ s).length; rw [List.length_append]; show _ ≤ 2 + _; omega), List.take_of_length_le (by rw [List.length_append]; show 2 + _ ≤ _; omega)]
  rw [ht, if_pos (wFrame_good s), ht2]
  rfl
def wFrames (l : List (List UInt8)) : List UInt8 := l.flatMap wFrame
theorem wScan_frames : ∀ (l : List (List UInt8)) (rest : List UInt8), (∀ s ∈ l, s.length ≤ 65535) → wScan (wFrames l ++ rest) = (l ++ (wScan rest).1, (wFrames l).length + (wScan rest).2)
  | [], rest, _ => by simp [wFrames]
  | s :: l, rest, h => by
    have ih := wScan_frames l rest (fun t ht => h t (List.mem_cons_of_mem _ ht))
    have e : wFrames (s :: l) ++ rest = wFrame s ++ (wFrames l ++ rest) := by simp [wFrames]
    rw [e, wScan_some (wNext_put s _ (h s (List.mem_cons_self ..))), ← wFrame_len s, List.drop_left, ih]
    simp only [wFrames, List.flatMap_cons, List.length_append, Prod.mk.injEq]
    exact ⟨rfl, by omega⟩
theorem wFrames_append (a b : List (List UInt8)) : wFrames (a ++ b) = wFrames a ++ wFrames b := by simp [wFrames]
/-- What is read is what stands there. -/
theorem wNext_is {l r : List UInt8} (h : wNext l = some r) : l = wFrame r ++ l.drop (r.length + 6) ∧ r.length ≤ 65535 := by
  have hl := wNext_len h
  have hn := wNum_lt l
  unfold wNext at h
  split at h
  · cases h
  · rename_i h1
    split at h
    · rename_i hg
      injection h with h
      have := (wNext_frame l (by omega) (by omega)).1 hg
      rw [h] at this
      refine ⟨?_, by omega⟩
      rw [this, hl.1, List.take_append_drop]
    · cases h
theorem wScan_is : ∀ (n : Nat) (l : List UInt8), l.length ≤ n → l.take (wScan l).2 = wFrames (wScan l).1 ∧ ∀ s ∈ (wScan l).1, s.length ≤ 65535
  | n, l, hn => by
    cases h : wNext l with
    | none => rw [wScan_none h]; exact ⟨rfl, by simp⟩
    | some r =>
      have h1 := wNext_len h
      have h2 := wNext_is h
      cases n with
      | zero => omega
      | succ n =>
        have ih := wScan_is n (l.drop (r.length + 6)) (by rw [List.length_drop]; omega)
        rw [wScan_some h]
        constructor
        · show l.take (r.length + 6 + _) = wFrame r ++ wFrames _
          rw [List.take_add, ih.1]
          congr 1
          have := h2.1
          rw [this, List.take_append_of_le_length (by rw [wFrame_len]; omega), List.take_of_length_le (by rw [wFrame_len]; omega)]
        · intro s hs
          rcases List.mem_cons.1 hs with rfl | hs
          · exact h2.2
          · exact ih.2 s hs
theorem wScan_again (l : List UInt8) : wScan (l.take (wScan l).2) = wScan l := by
  have h := wScan_is l.length l (Nat.le_refl _)
  have hle := (wScan_le l.length l (Nat.le_refl _)).1
  have h2 := wScan_frames (wScan l).1 [] h.2
  rw [List.append_nil] at h2
  have h3 : wNext [] = none := by unfold wNext; rw [if_pos (by simp)]
  rw [h.1, h2, wScan_none h3]
  have hlen : (wFrames (wScan l).1).length = (wScan l).2 := by rw [← h.1, List.length_take]; omega
  simp [hlen]
theorem wNext_nil : wNext [] = none := by unfold wNext; rw [if_pos (by simp)]
/-- A beginning of a frame, its last byte turned, is none, but where it is whole. -/
theorem wNext_torn (s : List UInt8) (h : s.length ≤ 65535) (k : Nat) (hk : k < s.length + 6) (x : UInt8) : wNext (((wFrame s).take k).modify (k - 1) (· ^^^ x)) = none := by
  have hl := wFrame_len s
  have hlen : (((wFrame s).take k).modify (k - 1) (· ^^^ x)).length = k := by rw [List.length_modify, List.length_take]; omega
  unfold wNext
  by_cases h6 : k < 6
  · rw [if_pos (by omega)]
  · have hn : wNum (((wFrame s).take k).modify (k - 1) (· ^^^ x)) = s.length := by
      have e : ∀ i, i < 2 → (((wFrame s).take k).modify (k - 1) (· ^^^ x)).getD i 0 = (wFrame s).getD i 0 := by
        intro i hi
        rw [List.getD_eq_getElem?_getD, List.getD_eq_getElem?_getD, List.getElem?_modify, List.getElem?_take_of_lt (by omega)]
        have : ¬ (k - 1 = i) := by omega
        simp [this]
      have h2 := wFrame_num s [] h
      rw [List.append_nil] at h2
      unfold wNum at h2 ⊢
      rw [e 0 (by omega), e 1 (by omega)]
      exact h2
    rw [if_pos (by omega)]
theorem wNext_turned (s : List UInt8) (h : s.length ≤ 65535) (x : UInt8) (hx : x ≠ 0) : wNext ((wFrame s).modify (s.length + 5) (· ^^^ x)) = none := by
  have hl := wFrame_len s
  have hlen : ((wFrame s).modify (s.length + 5) (· ^^^ x)).length = s.length + 6 := by rw [List.length_modify]; exact hl
  have hn : wNum ((wFrame s).modify (s.length + 5) (· ^^^ x)) = s.length := by
    have e : ∀ i, i < 2 → ((wFrame s).modify (s.length + 5) (· ^^^ x)).getD i 0 = (wFrame s).getD i 0 := by
      intro i hi
      rw [List.getD_eq_getElem?_getD, List.getD_eq_getElem?_getD, List.getElem?_modify]
      have : ¬ (s.length + 5 = i) := by omega
      simp [this]
    have h2 := wFrame_num s [] h
    rw [List.append_nil] at h2
    unfold wNum at h2 ⊢
    rw [e 0 (by omega), e 1 (by omega)]
    exact h2
  unfold wNext
  rw [if_neg (by omega), hn, List.take_of_length_le (by omega)]
  rw [if_neg]
  intro hg
  have hw := wFrame_good s
  unfold crcGood at hg hw
  simp only [Bool.and_eq_true, decide_eq_true_eq, beq_iff_eq] at hg hw
  rw [hlen] at hg
  rw [hl] at hw
  have e1 : ((wFrame s).modify (s.length + 5) (· ^^^ x)).take (s.length + 6 - 4) = (wFrame s).take (s.length + 6 - 4) := by
    apply List.ext_getElem?
    intro i
    rw [List.getElem?_take, List.getElem?_take]
    split
    · rw [List.getElem?_modify]
      have : ¬ (s.length + 5 = i) := by omega
      simp [this]
    · rfl
  rw [e1, hw.2] at hg
  have h5 := congrArg (fun l => l[3]?) hg.2
  simp only [List.getElem?_drop] at h5
  rw [show s.length + 6 - 4 + 3 = s.length + 5 by omega, List.getElem?_modify] at h5
  have h6 : (wFrame s)[s.length + 5]? = some ((wFrame s)[s.length + 5]'(by omega)) := List.getElem?_eq_getElem _
  rw [h6] at h5
  simp at h5
  apply hx
  have h7 := congrArg (fun y => (wFrame s)[s.length + 5]'(by omega) ^^^ y) h5
  simp only [← UInt8.xor_assoc, UInt8.xor_self, UInt8.zero_xor] at h7
  exact h7.symm

end Go.Proofs.Ythdhcllljmkamaa
