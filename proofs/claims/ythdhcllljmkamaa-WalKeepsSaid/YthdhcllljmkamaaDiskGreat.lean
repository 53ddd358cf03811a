/- Scripts of a disk: how they lie in memory; which are too great. -/
import Derived.Test.YthdhcllljmkamaaDiskCon
import Derived.Laws.Rows
namespace Go.Proofs.Ythdhcllljmkamaa
open Go.RowKit
set_option linter.unusedVariables false

def callCells (c : DCall) : List Value := [.int .i64 c.kind, .string c.s, .int .i64 c.n, .int .u8 (c.turn.toNat : Int)]
def callRow (cs : List DCall) : List Value := cs.flatMap callCells
theorem callRow_at : ∀ (cs : List DCall) (i : Nat) (h : i < cs.length) (j : Nat), j < 4 → (callRow cs)[i * 4 + j]? = (callCells cs[i])[j]?
  | [], i, h, _, _ => by simp at h
  | c :: cs, 0, h, j, hj => by
    show (callCells c ++ callRow cs)[0 * 4 + j]? = _
    rw [Nat.zero_mul, Nat.zero_add, List.getElem?_append_left (by simpa [callCells] using hj)]
    rfl
  | c :: cs, i + 1, h, j, hj => by
    show (callCells c ++ callRow cs)[(i + 1) * 4 + j]? = _
    rw [List.getElem?_append_right (by simp [callCells]; omega), show (i + 1) * 4 + j - (callCells c).length = i * 4 + j by simp [callCells]; omega]
    exact callRow_at cs i (by simpa using h) j hj
theorem rdCalls_at {w : World} {a : Option Addr} {cs : List DCall} (h : RdRow w a (callRow cs)) {i : Nat} (hi : i < cs.length) :
    ∃ b o, a = some ⟨b, o, none⟩ ∧ w.cell? ⟨b, o + i * 4, none⟩ = some (.int .i64 cs[i].kind) ∧ w.cell? ⟨b, o + i * 4 + 1, none⟩ = some (.string cs[i].s) ∧
      w.cell? ⟨b, o + i * 4 + 1 + 1, none⟩ = some (.int .i64 cs[i].n) ∧ w.cell? ⟨b, o + i * 4 + 1 + 1 + 1, none⟩ = some (.int .u8 (cs[i].turn.toNat : Int)) := by
  have h0 := callRow_at cs i hi 0 (by omega)
  have h1 := callRow_at cs i hi 1 (by omega)
  have h2 := callRow_at cs i hi 2 (by omega)
  have h3 := callRow_at cs i hi 3 (by omega)
  rcases h with h | ⟨b, o, ha, hc⟩
  · rw [h] at h0; simp [callCells] at h0
  · refine ⟨b, o, ha, hc _ _ h0, ?_, ?_, ?_⟩
    · have := hc _ _ h1; rw [← Nat.add_assoc] at this; exact this
    · have := hc _ _ h2; rw [← Nat.add_assoc] at this; exact this
    · have := hc _ _ h3; rw [← Nat.add_assoc] at this; exact this

def Modest (cs : List DCall) : Prop := cs.length ≤ 60 ∧ ∀ i (h : i < cs.length), cs[i].s.size ≤ 4096
def GreatPost (cs : List DCall) (w : World) (e : Ending) (w' : World) : Prop := ∃ r : Bool, e = .returned (.bool r) ∧ Fr w w' ∧ (r = false → Modest cs)
set_option maxHeartbeats 1000000 in
theorem disk_great (a : Option Addr) (cap : Nat) (cs : List DCall) (w : World) (hm : cs.length ≤ 140737488351232) (hr : RdRow w a (callRow cs)) :
    Calls Try.prog 13 #[.slice a cs.length cap] w (GreatPost cs w) := by
  go_enter Try.func13, Try.ntmps13
  go_wp2
  go_loopw [3, 8] (fun n i wr => ∃ (k q : Nat), k ≤ cs.length ∧ q ≤ 4096 * k ∧ i = .int .i64 k ∧ n = .int .i64 q ∧ Hid (Fr w wr) ∧ Hid (∀ i (h : i < cs.length), i < k → cs[i].s.size ≤ 4096)) (fun _ i _ => (cs.length - intOf i).toNat)
  case atStart => exact ⟨0, 0, by omega, by omega, rfl, rfl, Fr.refl w, fun i _ h => by omega⟩
  case round =>
    obtain ⟨k, q, hk, hq, rfl, rfl, hf, hall⟩ := hrel
    by_cases hlt : k < cs.length
    · obtain ⟨b, o, rfl, x0, x1, x2, x3⟩ := rdCalls_at (hr.fr hf.out) hlt
      have HR := Lib.hid hr
      clear hr
      by_cases hs : cs[k].s.size ≤ 4096
      · have hs2 : (cs[k].s.size : Int) ≤ 4096 := by omega
        go_wp2
        go_roundw
        case rel =>
          refine ⟨k + 1, q + cs[k].s.size, by omega, by omega, by go_num, by go_num, hf.out.alloc _, fun i h hi => ?_⟩
          by_cases e : i = k
          · subst e; exact hs
          · exact hall.out i h (by omega)
        case measure => simp [intOf]; omega
      · have hs2 : decide (4096 < (cs[k].s.size : Int)) = true := decide_eq_true (show (4096 : Int) < (cs[k].s.size : Int) by omega)
        go_wp2
        go_ret
        exact ⟨true, rfl, hf.out.alloc _, fun h => by cases h⟩
    · obtain rfl : k = cs.length := by omega
      by_cases h60 : cs.length ≤ 60
      · have h61 : (cs.length : Int) ≤ 60 := by omega
        go_wp2
        all_goals
          go_ret
          exact ⟨_, rfl, hf.out, fun h => ⟨h60, fun i h => hall.out i h h⟩⟩
      · have h61 : 60 < (cs.length : Int) := by omega
        go_wp2
        all_goals
          go_ret
          exact ⟨true, rfl, hf.out, fun h => by cases h⟩

end Go.Proofs.Ythdhcllljmkamaa
