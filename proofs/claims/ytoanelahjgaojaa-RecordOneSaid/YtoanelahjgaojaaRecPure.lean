/- Records, plain: what they are, which can be, how they lie in memory. -/
import Derived.Test.YtoanelahjgaojaaProg
import Derived.Test.YtoanelahjgaojaaOpen
import Derived.Test.YtoanelahjgaojaaBlk
namespace Go.Proofs.Ytoanelahjgaojaa
open Go.RowKit
set_option linter.unusedVariables false
set_option maxRecDepth 100000

structure PWrite where
  key : ByteArray
  val : ByteArray
  del : Bool
structure PHold where
  key : ByteArray
  mode : Int
structure PRec where
  kind : Int
  node : Int
  epoch : Int
  num : Int
  nodes : List Int
  writes : List PWrite
  holds : List PHold
  schema : ByteArray
def wCells (x : PWrite) : List Value := [.string x.key, .string x.val, .bool x.del]
def wRow (l : List PWrite) : List Value := l.flatMap wCells
def hCells (x : PHold) : List Value := [.string x.key, .int .i64 x.mode]
def hRow (l : List PHold) : List Value := l.flatMap hCells
theorem row_at {α : Type} (f : α → List Value) (n : Nat) (hf : ∀ x, (f x).length = n) : ∀ (l : List α) (i : Nat) (h : i < l.length) (j : Nat), j < n → (l.flatMap f)[i * n + j]? = (f l[i])[j]?
  | [], i, h, _, _ => by simp at h
  | c :: cs, 0, h, j, hj => by
    show (f c ++ cs.flatMap f)[0 * n + j]? = _
    rw [Nat.zero_mul, Nat.zero_add, List.getElem?_append_left (by rw [hf]; exact hj)]
    rfl
  | c :: cs, i + 1, h, j, hj => by
    show (f c ++ cs.flatMap f)[(i + 1) * n + j]? = _
    have e : (i + 1) * n = i * n + n := by rw [Nat.add_mul, Nat.one_mul]
    rw [List.getElem?_append_right (by rw [hf]; omega), show (i + 1) * n + j - (f c).length = i * n + j by rw [hf]; omega]
    exact row_at f n hf cs i (by simpa using h) j hj
theorem rdWrite_at {w : World} {a : Option Addr} {l : List PWrite} (h : RdRow w a (wRow l)) {i : Nat} (hi : i < l.length) :
    ∃ b o, a = some ⟨b, o, none⟩ ∧ w.cell? ⟨b, o + i * 3, none⟩ = some (.string l[i].key) ∧ w.cell? ⟨b, o + i * 3 + 1, none⟩ = some (.string l[i].val) ∧ w.cell? ⟨b, o + i * 3 + 1 + 1, none⟩ = some (.bool l[i].del) := by
  have h0 : (wRow l)[i * 3 + 0]? = _ := row_at wCells 3 (fun _ => rfl) l i hi 0 (by omega)
  have h1 : (wRow l)[i * 3 + 1]? = _ := row_at wCells 3 (fun _ => rfl) l i hi 1 (by omega)
  have h2 : (wRow l)[i * 3 + 2]? = _ := row_at wCells 3 (fun _ => rfl) l i hi 2 (by omega)
  rcases h with h | ⟨b, o, ha, hc⟩
  · rw [h] at h0; simp [wCells] at h0
  · refine ⟨b, o, ha, hc _ _ h0, ?_, ?_⟩
    · have := hc _ _ h1; rw [← Nat.add_assoc] at this; exact this
    · have := hc _ _ h2; rw [← Nat.add_assoc] at this; exact this
theorem rdHold_at {w : World} {a : Option Addr} {l : List PHold} (h : RdRow w a (hRow l)) {i : Nat} (hi : i < l.length) :
    ∃ b o, a = some ⟨b, o, none⟩ ∧ w.cell? ⟨b, o + i * 2, none⟩ = some (.string l[i].key) ∧ w.cell? ⟨b, o + i * 2 + 1, none⟩ = some (.int .i64 l[i].mode) := by
  have h0 : (hRow l)[i * 2 + 0]? = _ := row_at hCells 2 (fun _ => rfl) l i hi 0 (by omega)
  have h1 : (hRow l)[i * 2 + 1]? = _ := row_at hCells 2 (fun _ => rfl) l i hi 1 (by omega)
  rcases h with h | ⟨b, o, ha, hc⟩
  · rw [h] at h0; simp [hCells] at h0
  · refine ⟨b, o, ha, hc _ _ h0, ?_⟩
    have := hc _ _ h1; rw [← Nat.add_assoc] at this; exact this
/-- Where the three rows of a record lie. -/
structure RecPl where
  an : Option Addr
  cn : Nat
  aw : Option Addr
  cw : Nat
  ah : Option Addr
  ch : Nat
def recCells (x : PRec) (p : RecPl) : Array Value := #[.int .i64 x.kind, .int .i64 x.node, .int .i64 x.epoch, .int .i64 x.num, .slice p.an x.nodes.length p.cn, .slice p.aw x.writes.length p.cw, .slice p.ah x.holds.length p.ch, .string x.schema]
def RecAt (w : World) (x : PRec) (p : RecPl) : Prop := RdRow w p.an (intRow x.nodes) ∧ RdRow w p.aw (wRow x.writes) ∧ RdRow w p.ah (hRow x.holds)
theorem RecAt.fr {w w' : World} {x : PRec} {p : RecPl} (h : RecAt w x p) (hf : Fr w w') : RecAt w' x p := ⟨h.1.fr hf, h.2.1.fr hf, h.2.2.fr hf⟩
def in64 (n : Int) : Prop := -9223372036854775808 ≤ n ∧ n ≤ 9223372036854775807
/-- Its numbers are such, and it is no greater than memory. -/
def PRec.sized (x : PRec) : Prop := in64 x.kind ∧ in64 x.node ∧ in64 x.epoch ∧ in64 x.num ∧ (∀ n ∈ x.nodes, in64 n) ∧ (∀ h ∈ x.holds, in64 h.mode) ∧
  x.nodes.length ≤ 1000000000000000 ∧ x.writes.length ≤ 1000000000000000 ∧ x.holds.length ≤ 1000000000000000 ∧ x.schema.size ≤ 140737488351232 ∧
  (∀ w ∈ x.writes, w.key.size ≤ 140737488351232 ∧ w.val.size ≤ 140737488351232) ∧ ∀ h ∈ x.holds, h.key.size ≤ 140737488351232
def PRec.bare (x : PRec) : Prop := x.writes = [] ∧ x.holds = [] ∧ x.schema = ⟨#[]⟩
def PRec.kindOk (x : PRec) : Prop := x.kind = 1 ∨ (x.kind = 4 ∧ x.bare) ∨ ((x.kind = 2 ∨ x.kind = 3 ∨ x.kind = 5) ∧ x.bare ∧ x.nodes = [])
def risen (l : List Int) : Prop := ∀ i (h : i < l.length), 0 ≤ l[i] ∧ l[i] < 4 ∧ (0 < i → l[i - 1]'(by omega) < l[i])
def PRec.good (x : PRec) : Prop := x.kindOk ∧ risen x.nodes ∧ (∀ h ∈ x.holds, 1 ≤ h.mode ∧ h.mode ≤ 5) ∧ (∀ w ∈ x.writes, ¬ (w.del = true ∧ w.val ≠ ⟨#[]⟩)) ∧ x.writes.length ≤ 1000 ∧ x.holds.length ≤ 1000
instance (x : PRec) : Decidable x.bare := by unfold PRec.bare; infer_instance
def GoodPost (x : PRec) (w : World) (e : Ending) (w' : World) : Prop := ∃ r : Bool, e = .returned (.bool r) ∧ Fr w w' ∧ (r = true ↔ x.good)

end Go.Proofs.Ytoanelahjgaojaa
