/- What a piece of memory holds, and that the rest stays as it is: assertions with their blocks, side by side. Of no program. -/
import Derived.Test.YtoanelahjgaojaaKit
namespace Go.Proofs.Ytoanelahjgaojaa
open Go.RowKit
set_option linter.unusedVariables false

/-- Outside of the blocks S what was there is as it was. -/
structure Step (S : Nat → Prop) (w w' : World) : Prop where
  os : w'.os = w.os
  tape : w'.tape = w.tape
  output : w'.output = w.output
  size : w.heap.size ≤ w'.heap.size
  block : ∀ k, k < w.heap.size → ¬ S k → w'.heap[k]? = w.heap[k]?

theorem Step.refl (S : Nat → Prop) (w : World) : Step S w w := ⟨rfl, rfl, rfl, Nat.le_refl _, fun _ _ _ => rfl⟩
theorem Step.trans {S S' : Nat → Prop} {a b c : World} (h : Step S a b) (k : Step S' b c) (hs : ∀ i, S' i → S i ∨ a.heap.size ≤ i) : Step S a c :=
  ⟨k.os.trans h.os, k.tape.trans h.tape, k.output.trans h.output, Nat.le_trans h.size k.size, fun i hi hn =>
    (k.block i (Nat.lt_of_lt_of_le hi h.size) (fun hS => (hs i hS).elim hn (fun h2 => by omega))).trans (h.block i hi hn)⟩
theorem Step.of_fr {S : Nat → Prop} {w w' : World} (h : Fr w w') : Step S w w' := ⟨h.os, h.tape, h.output, h.size, fun k hk _ => h.block k hk⟩
theorem Step.mono {S S' : Nat → Prop} {w w' : World} (h : Step S w w') (hs : ∀ k, S k → S' k) : Step S' w w' :=
  ⟨h.os, h.tape, h.output, h.size, fun k hk hn => h.block k hk (fun hS => hn (hs k hS))⟩
theorem Step.fr {w w' : World} (h : Step (fun _ => False) w w') : Fr w w' := ⟨h.os, h.tape, h.output, h.size, fun k hk => h.block k hk (fun h => h)⟩
theorem Step.of_grown {w w' : World} {row : Option Nat} (h : w.grownBy w' row) : Step (fun k => some k = row) w w' :=
  ⟨h.os, h.tape, h.output, h.size, fun k hk hn => h.block k hk hn⟩
theorem Step.alloc {S : Nat → Prop} {a w : World} (h : Step S a w) (o : Obj) : Step S a (w.alloc o) :=
  h.trans (S' := fun _ => False) (Step.of_fr ((Fr.refl w).alloc o)) (fun _ h => h.elim)
theorem Step.drew {S : Nat → Prop} {a w : World} (h : Step S a w) : Step S a w.drew := ⟨h.os, h.tape, h.output, h.size, h.block⟩
theorem Step.drewN {S : Nat → Prop} {a w : World} (h : Step S a w) (n : Nat) : Step S a (w.drewN n) := ⟨h.os, h.tape, h.output, h.size, h.block⟩
theorem Step.setCell {S : Nat → Prop} {a w : World} (h : Step S a w) {p : Addr} (hp : S p.block) (u : Value) : Step S a (w.setCell p u) :=
  h.trans (S' := fun k => k = p.block) ⟨rfl, rfl, rfl, by simp [World.setCell], fun k hk hn => Below.heap_setCell _ _ _ _ hn⟩ (fun i hi => .inl (hi ▸ hp))

theorem Step.set1 {g : Nat} {a w : World} (h : Step (fun k => k = g) a w) (o : Nat) (u : Value) : Step (fun k => k = g) a (w.setCell ⟨g, o, none⟩ u) := h.setCell (p := ⟨g, o, none⟩) rfl u

/-- An assertion on some blocks. -/
abbrev Asr := (Nat → Prop) → World → Prop
structure LocalA (A : Asr) : Prop where
  keep : ∀ S w w', A S w → (∀ k, S k → w'.heap[k]? = w.heap[k]?) → A S w'
  lt : ∀ S w k, A S w → S k → k < w.heap.size

/-- The blocks S have come to be what A' says, the rest is as it was. -/
def Upd (S : Nat → Prop) (A' : Asr) (w w' : World) : Prop := ∃ S', A' S' w' ∧ Step S w w' ∧ ∀ k, S' k → S k ∨ w.heap.size ≤ k

def Sep : List Asr → Asr
  | [] => fun S _ => ∀ k, ¬ S k
  | A :: L => fun S w => ∃ S1 S2, A S1 w ∧ Sep L S2 w ∧ (∀ k, S1 k → ¬ S2 k) ∧ (∀ k, S k ↔ S1 k ∨ S2 k)

theorem Sep.local : ∀ (L : List Asr), (∀ A ∈ L, LocalA A) → LocalA (Sep L)
  | [], _ => ⟨fun S w w' h _ => h, fun S w k h hk => (h k hk).elim⟩
  | A :: L, hL => by
    have hA := hL A (List.mem_cons_self ..)
    have ih := Sep.local L (fun B hB => hL B (List.mem_cons_of_mem _ hB))
    refine ⟨?_, ?_⟩
    · rintro S w w' ⟨S1, S2, h1, h2, hd, hu⟩ hk
      exact ⟨S1, S2, hA.keep _ _ _ h1 (fun k h => hk k ((hu k).2 (.inl h))), ih.keep _ _ _ h2 (fun k h => hk k ((hu k).2 (.inr h))), hd, hu⟩
    · rintro S w k ⟨S1, S2, h1, h2, hd, hu⟩ hk
      rcases (hu k).1 hk with h | h
      · exact hA.lt _ _ _ h1 h
      · exact ih.lt _ _ _ h2 h

theorem Upd.refl {S : Nat → Prop} {A : Asr} {w : World} (h : A S w) : Upd S A w w := ⟨S, h, Step.refl _ _, fun _ h => .inl h⟩
theorem Upd.start (w : World) : Upd (fun _ => False) (Sep []) w w := ⟨fun _ => False, fun _ h => h, Step.refl _ _, fun _ h => .inl h⟩
theorem Upd.step {S : Nat → Prop} {A : Asr} {w w' : World} (h : Upd S A w w') : Step S w w' := let ⟨_, _, h, _⟩ := h; h
theorem Upd.fr {A : Asr} {w w' : World} (h : Upd (fun _ => False) A w w') : Fr w w' := h.step.fr
theorem Upd.trans {S : Nat → Prop} {A A' : Asr} {a b c : World} (h : Upd S A a b) (k : ∀ S1, A S1 b → Upd S1 A' b c) : Upd S A' a c := by
  obtain ⟨S1, h1, h2, h3⟩ := h
  obtain ⟨S2, k1, k2, k3⟩ := k S1 h1
  exact ⟨S2, k1, h2.trans k2 h3, fun i hi => (k3 i hi).elim (h3 i) (fun h => .inr (Nat.le_trans h2.size h))⟩
theorem Upd.trans' {S S1 : Nat → Prop} {A A' : Asr} {a b c : World} (_ : Upd S A a b) (h1 : A S1 b) (h2 : Step S a b) (h3 : ∀ k, S1 k → S k ∨ a.heap.size ≤ k) (k : Upd S1 A' b c) : Upd S A' a c := by
  obtain ⟨S2, k1, k2, k3⟩ := k
  exact ⟨S2, k1, h2.trans k2 h3, fun i hi => (k3 i hi).elim (h3 i) (fun h => .inr (Nat.le_trans h2.size h))⟩
theorem Upd.undrew {S : Nat → Prop} {A : Asr} {w w' : World} {n : Nat} (h : Upd S A (w.drewN n) w') : Upd S A w w' :=
  let ⟨S1, h1, h2, h3⟩ := h; ⟨S1, h1, ⟨h2.os, h2.tape, h2.output, h2.size, h2.block⟩, h3⟩
theorem Upd.imp {S : Nat → Prop} {A A' : Asr} {a b : World} (h : Upd S A a b) (hi : ∀ S1, A S1 b → A' S1 b) : Upd S A' a b :=
  let ⟨S1, h1, h2, h3⟩ := h; ⟨S1, hi _ h1, h2, h3⟩

/-- The first of several is handed over; what becomes of it takes its place. -/
theorem Upd.call {S0 : Nat → Prop} {A : Asr} {L : List Asr} {w0 w : World} (hL : ∀ B ∈ L, LocalA B) (hU : Upd S0 (Sep (A :: L)) w0 w) :
    ∃ S1, A S1 w ∧ ∀ A' w', Upd S1 A' w w' → Upd S0 (Sep (A' :: L)) w0 w' := by
  obtain ⟨S, ⟨S1, S2, h1, h2, hd, hu⟩, hst, hsub⟩ := hU
  refine ⟨S1, h1, fun A' w' ⟨S1', k1, k2, k3⟩ => ?_⟩
  have hl := Sep.local L hL
  refine ⟨fun k => S1' k ∨ S2 k, ⟨S1', S2, k1, hl.keep _ _ _ h2 (fun k hk => k2.block k (hl.lt _ _ _ h2 hk) (fun h => hd k h hk)), fun k hk hk2 => ?_, fun k => Iff.rfl⟩, ?_, ?_⟩
  · rcases k3 k hk with h | h
    · exact hd k h hk2
    · have := hl.lt _ _ _ h2 hk2; omega
  · exact hst.trans k2 (fun i hi => hsub i ((hu i).2 (.inl hi)))
  · rintro k (hk | hk)
    · rcases k3 k hk with h | h
      · exact hsub k ((hu k).2 (.inl h))
      · exact .inr (Nat.le_trans hst.size h)
    · exact hsub k ((hu k).2 (.inr hk))
theorem Upd.swap {S0 : Nat → Prop} {A B : Asr} {L : List Asr} {w0 w : World} (hU : Upd S0 (Sep (A :: B :: L)) w0 w) : Upd S0 (Sep (B :: A :: L)) w0 w := by
  obtain ⟨S, ⟨S1, S2, h1, ⟨T1, T2, g1, g2, gd, gu⟩, hd, hu⟩, hst, hsub⟩ := hU
  refine ⟨S, ⟨T1, fun k => S1 k ∨ T2 k, g1, ⟨S1, T2, h1, g2, fun k hk hk2 => hd k hk ((gu k).2 (.inr hk2)), fun k => Iff.rfl⟩, ?_, ?_⟩, hst, hsub⟩
  · rintro k hk (h | h)
    · exact hd k h ((gu k).2 (.inl hk))
    · exact gd k hk h
  · intro k
    rw [hu, gu]
    constructor
    · rintro (h | h | h)
      · exact .inr (.inl h)
      · exact .inl h
      · exact .inr (.inr h)
    · rintro (h | h | h)
      · exact .inr (.inl h)
      · exact .inl h
      · exact .inr (.inr h)
/-- The third first. -/
theorem Upd.third {S0 : Nat → Prop} {A B C : Asr} {L : List Asr} {w0 w : World} (hU : Upd S0 (Sep (A :: B :: C :: L)) w0 w) : Upd S0 (Sep (C :: A :: B :: L)) w0 w := by
  obtain ⟨S, ⟨S1, S2, h1, hr, hd, hu⟩, hst, hsub⟩ := hU
  obtain ⟨T1, T2, g1, ⟨R1, R2, r1, r2, rd, ru⟩, gd, gu⟩ := hr
  refine ⟨S, ⟨R1, fun k => S1 k ∨ T1 k ∨ R2 k, r1, ⟨S1, fun k => T1 k ∨ R2 k, h1, ⟨T1, R2, g1, r2, fun k h1 h2 => gd k h1 ((ru k).2 (.inr h2)), fun k => Iff.rfl⟩, ?_, fun k => Iff.rfl⟩, ?_, ?_⟩, hst, hsub⟩
  · rintro k hk (h | h)
    · exact hd k hk ((gu k).2 (.inl h))
    · exact hd k hk ((gu k).2 (.inr ((ru k).2 (.inr h))))
  · rintro k hk (h | h | h)
    · exact hd k h ((gu k).2 (.inr ((ru k).2 (.inl hk))))
    · exact gd k h ((ru k).2 (.inl hk))
    · exact rd k hk h
  · intro k
    rw [hu, gu, ru]
    constructor
    · rintro (h | h | h | h)
      · exact .inr (.inl h)
      · exact .inr (.inr (.inl h))
      · exact .inl h
      · exact .inr (.inr (.inr h))
    · rintro (h | h | h | h)
      · exact .inr (.inr (.inl h))
      · exact .inl h
      · exact .inr (.inl h)
      · exact .inr (.inr (.inr h))
theorem Upd.fresh {S0 : Nat → Prop} {L : List Asr} {w0 w w' : World} (hL : ∀ B ∈ L, LocalA B) (hU : Upd S0 (Sep L) w0 w) (h : Fr w w') : Upd S0 (Sep L) w0 w' := by
  obtain ⟨S, hS, hst, hsub⟩ := hU
  have hl := Sep.local L hL
  exact ⟨S, hl.keep _ _ _ hS (fun k hk => h.block k (hl.lt _ _ _ hS hk)), hst.trans (S' := fun _ => False) (Step.of_fr h) (fun _ h => h.elim), hsub⟩
theorem Upd.drop {S0 : Nat → Prop} {A : Asr} {L : List Asr} {w0 w : World} (hU : Upd S0 (Sep (A :: L)) w0 w) : Upd S0 (Sep L) w0 w := by
  obtain ⟨S, ⟨S1, S2, h1, h2, hd, hu⟩, hst, hsub⟩ := hU
  exact ⟨S2, h2, hst, fun k hk => hsub k ((hu k).2 (.inr hk))⟩
/-- A new block beside the others: what it holds is told by A. -/
theorem Upd.new {S0 : Nat → Prop} {A : Asr} {L : List Asr} {w0 w w' : World} (hL : ∀ B ∈ L, LocalA B) (hU : Upd S0 (Sep L) w0 w) (h : Fr w w') (S1 : Nat → Prop) (hA : A S1 w') (hS : ∀ k, S1 k → w.heap.size ≤ k) :
    Upd S0 (Sep (A :: L)) w0 w' := by
  obtain ⟨S, h2, hst, hsub⟩ := hU
  have hl := Sep.local L hL
  refine ⟨fun k => S1 k ∨ S k, ⟨S1, S, hA, hl.keep _ _ _ h2 (fun k hk => h.block k (hl.lt _ _ _ h2 hk)), fun k hk hk2 => ?_, fun k => Iff.rfl⟩, hst.trans (S' := fun _ => False) (Step.of_fr h) (fun _ h => h.elim), ?_⟩
  · have := hl.lt _ _ _ h2 hk2
    have := hS k hk
    omega
  · rintro k (hk | hk)
    · exact .inr (Nat.le_trans hst.size (hS k hk))
    · exact hsub k hk
theorem Upd.head {S0 : Nat → Prop} {A : Asr} {L : List Asr} {w0 w : World} (hU : Upd S0 (Sep (A :: L)) w0 w) : ∃ S1, A S1 w := by
  obtain ⟨S, ⟨S1, S2, h1, h2, hd, hu⟩, hst, hsub⟩ := hU
  exact ⟨S1, h1⟩

theorem Sep.perm {L L' : List Asr} (h : L.Perm L') : ∀ {S : Nat → Prop} {w : World}, Sep L S w → Sep L' S w := by
  induction h with
  | nil => exact fun h => h
  | cons A _ ih => rintro S w ⟨S1, S2, h1, h2, hd, hu⟩; exact ⟨S1, S2, h1, ih h2, hd, hu⟩
  | swap A B L =>
    rintro S w ⟨S1, S2, h1, ⟨T1, T2, g1, g2, gd, gu⟩, hd, hu⟩
    refine ⟨T1, fun k => S1 k ∨ T2 k, g1, ⟨S1, T2, h1, g2, fun k hk hk2 => hd k hk ((gu k).2 (.inr hk2)), fun k => Iff.rfl⟩, ?_, ?_⟩
    · rintro k hk (h | h)
      · exact hd k h ((gu k).2 (.inl hk))
      · exact gd k hk h
    · intro k
      rw [hu, gu]
      constructor
      · rintro (h | h | h)
        · exact .inr (.inl h)
        · exact .inl h
        · exact .inr (.inr h)
      · rintro (h | h | h)
        · exact .inr (.inl h)
        · exact .inl h
        · exact .inr (.inr h)
  | trans _ _ h1 h2 => exact fun h => h2 (h1 h)
theorem Upd.perm {S0 : Nat → Prop} {L L' : List Asr} {w0 w : World} (hp : L.Perm L') (hU : Upd S0 (Sep L) w0 w) : Upd S0 (Sep L') w0 w := hU.imp fun _ h => Sep.perm hp h
/-- One of several is handed over; what becomes of it takes its place. -/
theorem Upd.callAt {S0 : Nat → Prop} (L1 : List Asr) {A : Asr} {L2 : List Asr} {w0 w : World} (hL : ∀ B ∈ L1 ++ L2, LocalA B) (hU : Upd S0 (Sep (L1 ++ A :: L2)) w0 w) :
    ∃ S1, A S1 w ∧ (∀ k, S1 k → S0 k ∨ w0.heap.size ≤ k) ∧ ∀ A' w', Upd S1 A' w w' → Upd S0 (Sep (L1 ++ A' :: L2)) w0 w' := by
  have h2 := hU.perm List.perm_middle
  obtain ⟨S, ⟨S1, S2, h1, h2', hd, hu⟩, hst, hsub⟩ := h2
  obtain ⟨S3, k1, k2⟩ := Upd.call hL (A := fun S' w' => A S' w' ∧ S' = S1) ⟨S, ⟨S1, S2, ⟨h1, rfl⟩, h2', hd, hu⟩, hst, hsub⟩
  obtain ⟨k1, rfl⟩ := k1
  exact ⟨S3, k1, fun k hk => hsub k ((hu k).2 (.inl hk)), fun A' w' h => (k2 A' w' h).perm List.perm_middle.symm⟩
theorem Upd.at_ {S0 : Nat → Prop} (L1 : List Asr) {A : Asr} {L2 : List Asr} {w0 w : World} (hU : Upd S0 (Sep (L1 ++ A :: L2)) w0 w) : ∃ S1, A S1 w := (hU.perm List.perm_middle).head

end Go.Proofs.Ytoanelahjgaojaa
