/- A region that draws its order, where the operations that change the world wait for one another: the quiet ones are taken first, in whatever order. Of no program. -/
import Derived.Test.YthdhcllljmkamaaKit
import Derived.OrdersHeld
namespace Go.Proofs.Ythdhcllljmkamaa
open Go.RowKit Go
set_option linter.unusedVariables false
set_option linter.unusedSimpArgs false

/-- Operations that yield a value and call no Go function. -/
def plainOp : Op → Bool
  | .move _ | .assign _ | .pick .. | .load .. | .binOp .. | .unOp .. | .convert .. | .slice .. | .fieldAddr .. | .field .. | .indexAddr .. | .index .. | .extract .. | .nilCheck _ => true
  | .call c => match c.callee with
    | .builtin .len | .builtin .cap | .builtin .min | .builtin .max => true
    | _ => false
  | _ => false

theorem value_of_bind {P : Program} {s : Sem Value} {w w' : World} {n : Next} (h : (do pure (.value (← s)) : Sem Next).run P w = .ok n w') : ∃ v, n = .value v := by
  simp only [Sem.run_bind] at h
  cases hs : s.run P w with
  | ok v w1 =>
    rw [hs] at h
    simp only [Result.andThen, Sem.run_pure] at h
    injection h with h1 h2
    exact ⟨v, h1.symm⟩
  | halt x w1 => rw [hs] at h; simp only [Result.andThen] at h; cases h

theorem plain_value {P : Program} {ρ : Operand → Value} {o : Oper} (hp : plainOp o.op = true) {w w' : World} {n : Next} (h : (execOp ρ o).run P w = .ok n w') : ∃ v, n = .value v := by
  obtain ⟨dst, op, type, pos, after, guard⟩ := o
  cases op <;> simp only [plainOp, Bool.false_eq_true] at hp <;> simp only [execOp] at h
  case move x => simp only [Sem.run_pure] at h; injection h with h1; exact ⟨_, h1.symm⟩
  case assign x => simp only [Sem.run_pure] at h; injection h with h1; exact ⟨_, h1.symm⟩
  case pick c a b =>
    simp only [Sem.run_bind] at h
    cases hs : (asBool (ρ c)).run P w with
    | ok v w1 => rw [hs] at h; simp only [Result.andThen, Sem.run_pure] at h; injection h with h1; exact ⟨_, h1.symm⟩
    | halt x w1 => rw [hs] at h; simp only [Result.andThen] at h; cases h
  case nilCheck x =>
    split at h
    · simp [runtimePanic] at h
    · simp [runtimePanic] at h
    · simp [runtimePanic] at h
    · split at h
      · simp [runtimePanic] at h
      · simp only [Sem.run_bind] at h
        revert h
        generalize (Sem.run P program w) = r1
        intro h
        cases r1 with
        | halt y w1 => simp only [Result.andThen] at h; cases h
        | ok p w1 =>
          simp only [Result.andThen, Sem.run_bind] at h
          revert h
          generalize (Sem.run P (nilAhead _ _ _ _) w1) = r2
          intro h
          cases r2 with
          | halt y w2 => simp only [Result.andThen] at h; cases h
          | ok q w2 =>
            simp only [Result.andThen] at h
            split at h
            · simp [unsupported] at h
            · simp only [Sem.run_pure] at h; first | (injection h with h1; exact ⟨_, h1.symm⟩) | (simp at h; exact ⟨_, h.1.symm⟩)
      · simp only [Sem.run_pure] at h; injection h with h1; exact ⟨_, h1.symm⟩
    · simp only [Sem.run_pure] at h; injection h with h1; exact ⟨_, h1.symm⟩
  case call c =>
    obtain ⟨callee, args, argTypes⟩ := c
    cases callee with
    | value f => simp at hp
    | invoke r m => simp at hp
    | builtin b =>
      simp only [resolve, Sem.run_bind, Sem.run_pure, Result.andThen, invoke, builtin] at h
      cases b <;> simp at hp <;> exact value_of_bind h
  all_goals exact value_of_bind h

section
variable {P : Program} {ops : Array Oper} {Q : Exit → Act → World → Prop} {C : World → Prop}

/-- The operation at a place of the list. -/
def lk : List Oper → Nat → Oper
  | [], _ => default
  | o :: _, 0 => o
  | _ :: l, n + 1 => lk l n
def pickOps (l : List Oper) : List Nat → List Oper
  | [] => []
  | i :: is => lk l i :: pickOps l is

theorem lk_some : ∀ (l : List Oper) (i : Nat), i < l.length → l[i]? = some (lk l i)
  | [], i, h => by simp at h
  | o :: l, 0, _ => rfl
  | o :: l, i + 1, h => by rw [List.getElem?_cons_succ]; exact lk_some l i (by simpa using h)

/-- A run of quiet operations, each of which may be taken first. -/
def pfRun (ops : Array Oper) : List Nat → Array Bool → Option (Array Bool)
  | [], listed => some listed
  | i :: is, listed =>
    if decide (i < ops.size) && (Region.ready .any ops listed).contains i && Region.free .any ops listed i && plainOp (lk ops.toList i).op then pfRun ops is (listed.setIfInBounds i true) else none
/-- The whole region: quiet runs, between them operations that nothing but themselves may come up ahead of. -/
def pfB (ops : Array Oper) : List (List Nat × Nat) → List Nat → Array Bool → Bool
  | [], fin, listed => match pfRun ops fin listed with
    | some l' => (Region.ready .any ops l').isEmpty
    | none => false
  | (l, i) :: rest, fin, listed => match pfRun ops l listed with
    | some l' => (Region.ready .any ops l' == [i]) && decide (i < ops.size) && pfB ops rest fin (l'.setIfInBounds i true)
    | none => false
def pfFuel : List (List Nat × Nat) → List Nat → Nat
  | [], fin => fin.length
  | (l, _) :: rest, fin => l.length + (pfFuel rest fin + 1)

/-- One operation that may change the world. -/
def npOp (P : Program) (ops : Array Oper) (Q : Exit → Act → World → Prop) (o : Oper) (K : Act → World → Prop) (a : Act) (w : World) : Prop :=
  if Region.wanted o (yielded ops a.tmps) then o.wp P a w K Q else K (a.put o.dst undef) w

def wpPF (P : Program) (ops : Array Oper) (C : World → Prop) (Q : Exit → Act → World → Prop) : List (List Nat × Nat) → List Nat → Act → World → Prop
  | [], fin, a, w => wpQuiet P ops C (fun a' => Q .normal a' w) (pickOps ops.toList fin) a
  | (l, i) :: rest, fin, a, w => wpQuiet P ops C (fun a' => npOp P ops Q (lk ops.toList i) (fun a'' w'' => C w'' ∧ wpPF P ops C Q rest fin a'' w'') a' w) (pickOps ops.toList l) a

theorem yieldsIf_of_quiet {o : Oper} {a : Act} {K : Act → Prop} (hp : plainOp o.op = true) {w0 : World} (hC : C w0)
    (h : if Region.wanted o (yielded ops a.tmps) then o.quiet P a C K else K (a.put o.dst undef)) : ∃ v, YieldsIf P ops C o v a ∧ K (a.put o.dst v) := by
  by_cases hw : Region.wanted o (yielded ops a.tmps) = true
  · rw [if_pos hw] at h
    obtain ⟨v, h1, h2⟩ := h
    refine ⟨v, .inl ⟨hw, fun w hCw => ?_⟩, h2⟩
    have h3 := h1 w hCw
    unfold Oper.quietAt at h3
    cases hr : (execOp a.eval o).run P w with
    | halt x w' => rw [hr] at h3; exact h3.elim
    | ok n w' =>
      obtain ⟨u, rfl⟩ := plain_value hp hr
      rw [hr] at h3
      obtain ⟨e1, e2⟩ := h3
      rw [e1, e2]
  · rw [if_neg hw] at h
    exact ⟨undef, .inr ⟨by simpa using hw, rfl⟩, h⟩

theorem wpAnyH_run (hs : Region.noSelect ops = true) (hQ : ∀ c a d v w, Q (.panic c) (Act.put a d v) w → Q (.panic c) a w) (w : World) (hC : C w) (fuel : Nat) :
    ∀ (is : List Nat) (listed l' : Array Bool) (a : Act) (K : Act → Prop), pfRun ops is listed = some l' →
      (∀ a', K a' → wpAnyH P .any ops Q C fuel l' a' w) → wpQuiet P ops C K (pickOps ops.toList is) a →
      wpAnyH P .any ops Q C (is.length + fuel) listed a w
  | [], listed, l', a, K, hr, hK, h => by
    simp only [pfRun, Option.some.injEq] at hr
    subst hr
    simpa using hK a h
  | i :: is, listed, l', a, K, hr, hK, h => by
    simp only [pfRun] at hr
    split at hr
    · rename_i hc
      simp only [Bool.and_eq_true, decide_eq_true_eq] at hc
      obtain ⟨⟨⟨hlt, hready⟩, hfree⟩, hplain⟩ := hc
      have hi : ops[i]? = some (lk ops.toList i) := by
        rw [← Array.getElem?_toList]
        exact lk_some _ _ (by simpa using hlt)
      obtain ⟨v, hy, hn⟩ := yieldsIf_of_quiet (K := wpQuiet P ops C K (pickOps ops.toList is)) hplain hC h
      have hrest := wpAnyH_run hs hQ w hC fuel is _ _ _ K hr hK hn
      have := wpAnyH_first (P := P) (Q := Q) (md := .any) (S := C) hi (Region.noSelect_spec hs) (fun c a w => hQ c a _ v w) (is.length + fuel) listed a w (Region.free_spec hi hfree) (by simpa using hready) hy hC hrest
      rw [List.length_cons, show is.length + 1 + fuel = is.length + fuel + 1 by omega]
      exact this
    · cases hr

theorem wpAnyH_pf (hs : Region.noSelect ops = true) (hQ : ∀ c a d v w, Q (.panic c) (Act.put a d v) w → Q (.panic c) a w) :
    ∀ (segs : List (List Nat × Nat)) (fin : List Nat) (listed : Array Bool) (a : Act) (w : World), C w → pfB ops segs fin listed = true →
      wpPF P ops C Q segs fin a w → wpAnyH P .any ops Q C (pfFuel segs fin) listed a w
  | [], fin, listed, a, w, hC, hB, h => by
    simp only [pfB] at hB
    split at hB
    · rename_i l' hr
      have := wpAnyH_run (P := P) (Q := Q) hs hQ w hC 0 fin listed l' a (fun a' => Q .normal a' w) hr (fun a' ha => ⟨by simpa using hB, ha⟩) h
      simpa [pfFuel] using this
    · cases hB
  | (l, i) :: rest, fin, listed, a, w, hC, hB, h => by
    simp only [pfB] at hB
    split at hB
    · rename_i l' hr
      simp only [Bool.and_eq_true, decide_eq_true_eq, beq_iff_eq] at hB
      obtain ⟨⟨hready, hlt⟩, hB'⟩ := hB
      have hi : ops[i]? = some (lk ops.toList i) := by
        rw [← Array.getElem?_toList]
        exact lk_some _ _ (by simpa using hlt)
      refine wpAnyH_run (P := P) (Q := Q) hs hQ w hC (pfFuel rest fin + 1) l listed l' a _ hr (fun a' ha => ?_) h
      refine ⟨fun h0 => (by rw [hready] at h0; cases h0), fun j hj => ?_⟩
      rw [hready] at hj
      simp only [List.mem_singleton] at hj
      subst hj
      unfold npOp at ha
      unfold wpOp
      simp only [hi]
      split
      · rename_i hw
        rw [if_pos hw] at ha
        exact .inl (Oper.wp_mono (fun a'' w'' hh => ⟨hh.1, wpAnyH_pf hs hQ rest fin _ a'' w'' hh.1 hB' hh.2⟩) ha)
      · rename_i hw
        rw [if_neg hw] at ha
        exact ⟨ha.1, wpAnyH_pf hs hQ rest fin _ _ w ha.1 hB' ha.2⟩
    · cases hB

/-- **The rule.** -/
theorem wp_region_pf {id : Nat} {l : List Oper} {a : Act} {w : World} (segs : List (List Nat × Nat)) (fin : List Nat) (C : World → Prop) (hm : P.follows .mixedOrders = true)
    (hB : (Region.noSelect l.toArray && pfB l.toArray segs fin (Array.replicate l.toArray.size false) && (pfFuel segs fin == l.toArray.size)) = true)
    (hQ : ∀ c a d v w, Q (.panic c) (Act.put a d v) w → Q (.panic c) a w) (hC : C w.drew)
    (h : wpPF P l.toArray C Q segs fin a w.drew) : (Code.region id l.toArray true).wp P Q a w := by
  simp only [Bool.and_eq_true, beq_iff_eq] at hB
  obtain ⟨⟨hs, hb⟩, hf⟩ := hB
  refine wp_region_any hm (wpAny_of_held (S := C) _ _ _ _ ?_)
  have := wpAnyH_pf hs hQ segs fin _ a w.drew hC hb h
  rw [hf] at this
  exact this

theorem wpPF_cons {l : List Nat} {i : Nat} {rest : List (List Nat × Nat)} {fin : List Nat} {a : Act} {w : World} {o : List Oper}
    (h : wpQuiet P o.toArray C (fun a' => npOp P o.toArray Q (lk o i) (fun a'' w'' => C w'' ∧ wpPF P o.toArray C Q rest fin a'' w'') a' w) (pickOps o l) a) : wpPF P o.toArray C Q ((l, i) :: rest) fin a w := h
theorem wpPF_nil {fin : List Nat} {a : Act} {w : World} {o : List Oper} (h : wpQuiet P o.toArray C (fun a' => Q .normal a' w) (pickOps o fin) a) : wpPF P o.toArray C Q [] fin a w := h
/-- The step over an operation that may change the world. -/
theorem npOp_want {o : Oper} {K : Act → World → Prop} {a : Act} {w : World} (hw : Region.wanted o (yielded ops a.tmps) = true)
    (h : ∀ K' : Act → World → Prop, (∀ a w, K a w → K' a w) → o.wp P a w K' Q) : npOp P ops Q o K a w := by
  unfold npOp
  rw [if_pos hw]
  exact h K fun _ _ h => h
theorem npOp_skip {o : Oper} {K : Act → World → Prop} {a : Act} {w : World} (hw : Region.wanted o (yielded ops a.tmps) = false) (h : K (a.put o.dst undef) w) : npOp P ops Q o K a w := by
  unfold npOp
  rw [if_neg (by rw [hw]; exact Bool.false_ne_true)]
  exact h
/-- A plain operation that reads nothing: whatever is known of the worlds. -/
theorem quiet_plain {C : World → Prop} {o : Oper} {a : Act} {K : Act → Prop} (hp : plainOp o.op = true) (h : o.quiet P a (fun _ => True) K) : o.quiet P a C K := by
  obtain ⟨v, h1, h2⟩ := h
  refine ⟨v, fun w _ => ?_, h2⟩
  have h3 := h1 w trivial
  unfold Oper.quietAt at h3 ⊢
  cases hr : (execOp a.eval o).run P w with
  | halt x w' => rw [hr] at h3; exact h3.elim
  | ok n w' =>
    obtain ⟨u, rfl⟩ := plain_value hp hr
    rw [hr] at h3
    exact h3
/-- A load of a cell that holds the same in all worlds that count. -/
theorem quiet_read {C : World → Prop} {o : Oper} {a : Act} {K : Act → Prop} (v : Value) (hr : ∀ W, C W → (execOp a.eval o).run P W = .ok (.value v) W) (h : K (a.put o.dst v)) : o.quiet P a C K := by
  refine ⟨v, fun W hW => ?_, h⟩
  unfold Oper.quietAt
  rw [hr W hW]
  exact ⟨rfl, rfl⟩

end

end Go.Proofs.Ythdhcllljmkamaa
