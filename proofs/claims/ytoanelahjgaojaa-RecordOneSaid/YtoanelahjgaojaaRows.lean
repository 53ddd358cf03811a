/-
  No cell of these rows narrows 'for every input' (looked for: loops, veiled, ifaces, maps, wideKeys, modest, calm, conditions, laid).
  DERIVED. THE GIVEN ROWS OF THIS SEAT. 9 by the template 'for every input the law returns true; each argument reads behind the call as it read before'; 0 by the template 'total and deterministic' (their statements: YtoanelahjgaojaaTotals.lean).
  GIVEN WITH THE SEED: the statements are not yours to turn. If you find one false, say at which input.
  Laid BY PROGRAM, IN A SANDBOX (cutbox-rows.mjs): the forced cells as the released guide's own fill.sh prints them over the translation b421a2761127e1bf… (all of the seat's roots in one cut). By AI agents, Wed Nov 11 2026. No macro, syntax, notation, axiom, sorry.
-/
import Derived.Test.YtoanelahjgaojaaChecked
import GoSem.Claim
import GoSem.ClaimJoined
import GoSem.ClaimMapViews
import Derived.JoinedTies
import Derived.KernelRfl
namespace Go.Proofs.Ytoanelahjgaojaa
/- THE CELL 'sum', in the pinned program and in every row, IS THE sha256 OF THE DUMP (.gsa) THAT YtoanelahjgaojaaProg.lean LOADS. Nothing in Lean hashes anything: it is a label: what it is worth is what the hold of that sum in a sandbox is worth. -/
noncomputable def Try.pinned : Pinned := { name := "ytoanelahjgaojaa", sum := "b421a2761127e1bf97b0070cab6f1d954254c808d71bf003ed9da683d1293a4d", checked := Try.checked }
namespace Rows
def none {H : Type} : Left H := { results := [], args := [] }

/-- 'mortmainlaw17.RecordOne': WHATEVER THE INPUT: true; the input reads as it did. -/
def recordOneSpec : ChangeSpec := { name := "recordOne", fn := fun _ => fun
  | [d1, d2] => { results := [.lit (.bool true)], args := [d1, d2] }
  | _ => none }
def recordOneRow : OpenClaim := { program := "ytoanelahjgaojaa", sum := "b421a2761127e1bf97b0070cab6f1d954254c808d71bf003ed9da683d1293a4d", func := "mortmain/mortmainlaw17.RecordOne", spec := "recordOne", inPlace := ["internal/abi.NoEscape"], apart := false }
def RecordOneSaid : Prop := recordOneRow.holds Try.pinned (OpenSpec.ofChange recordOneSpec)

/-- ITS FALSE NEIGHBOUR: 'it returns false'. Refute it at one input. -/
def recordOneWrong : ChangeSpec := { name := "recordOne", fn := fun _ => fun
  | [d1, d2] => { results := [.lit (.bool false)], args := [d1, d2] }
  | _ => none }
def RecordOneWrongFalsely : Prop := recordOneRow.holds Try.pinned (OpenSpec.ofChange recordOneWrong)

/-- 'mortmainlaw17.RecordSmall': WHATEVER THE INPUT: true; the input reads as it did. -/
def recordSmallSpec : ChangeSpec := { name := "recordSmall", fn := fun _ => fun
  | [d] => { results := [.lit (.bool true)], args := [d] }
  | _ => none }
def recordSmallRow : OpenClaim := { program := "ytoanelahjgaojaa", sum := "b421a2761127e1bf97b0070cab6f1d954254c808d71bf003ed9da683d1293a4d", func := "mortmain/mortmainlaw17.RecordSmall", spec := "recordSmall", inPlace := ["internal/abi.NoEscape"], apart := false }
def RecordSmallSaid : Prop := recordSmallRow.holds Try.pinned (OpenSpec.ofChange recordSmallSpec)

/-- ITS FALSE NEIGHBOUR: 'it returns false'. Refute it at one input. -/
def recordSmallWrong : ChangeSpec := { name := "recordSmall", fn := fun _ => fun
  | [d] => { results := [.lit (.bool false)], args := [d] }
  | _ => none }
def RecordSmallWrongFalsely : Prop := recordSmallRow.holds Try.pinned (OpenSpec.ofChange recordSmallWrong)

/-- 'mortmainlaw17.RecordBytes': WHATEVER THE INPUT: true; the input reads as it did. -/
def recordBytesSpec : ChangeSpec := { name := "recordBytes", fn := fun _ => fun
  | [d] => { results := [.lit (.bool true)], args := [d] }
  | _ => none }
def recordBytesRow : OpenClaim := { program := "ytoanelahjgaojaa", sum := "b421a2761127e1bf97b0070cab6f1d954254c808d71bf003ed9da683d1293a4d", func := "mortmain/mortmainlaw17.RecordBytes", spec := "recordBytes", inPlace := ["internal/abi.NoEscape"], apart := false }
def RecordBytesSaid : Prop := recordBytesRow.holds Try.pinned (OpenSpec.ofChange recordBytesSpec)

/-- ITS FALSE NEIGHBOUR: 'it returns false'. Refute it at one input. -/
def recordBytesWrong : ChangeSpec := { name := "recordBytes", fn := fun _ => fun
  | [d] => { results := [.lit (.bool false)], args := [d] }
  | _ => none }
def RecordBytesWrongFalsely : Prop := recordBytesRow.holds Try.pinned (OpenSpec.ofChange recordBytesWrong)

/-- 'mortmainlaw17.RecordReads': WHATEVER THE INPUT: true; the input reads as it did. -/
def recordReadsSpec : ChangeSpec := { name := "recordReads", fn := fun _ => fun
  | [d] => { results := [.lit (.bool true)], args := [d] }
  | _ => none }
def recordReadsRow : OpenClaim := { program := "ytoanelahjgaojaa", sum := "b421a2761127e1bf97b0070cab6f1d954254c808d71bf003ed9da683d1293a4d", func := "mortmain/mortmainlaw17.RecordReads", spec := "recordReads", inPlace := ["internal/abi.NoEscape"], apart := false }
def RecordReadsSaid : Prop := recordReadsRow.holds Try.pinned (OpenSpec.ofChange recordReadsSpec)

/-- ITS FALSE NEIGHBOUR: 'it returns false'. Refute it at one input. -/
def recordReadsWrong : ChangeSpec := { name := "recordReads", fn := fun _ => fun
  | [d] => { results := [.lit (.bool false)], args := [d] }
  | _ => none }
def RecordReadsWrongFalsely : Prop := recordReadsRow.holds Try.pinned (OpenSpec.ofChange recordReadsWrong)

/-- 'mortmainlaw17.RecordAll': WHATEVER THE INPUT: true; the input reads as it did. -/
def recordAllSpec : ChangeSpec := { name := "recordAll", fn := fun _ => fun
  | [d] => { results := [.lit (.bool true)], args := [d] }
  | _ => none }
def recordAllRow : OpenClaim := { program := "ytoanelahjgaojaa", sum := "b421a2761127e1bf97b0070cab6f1d954254c808d71bf003ed9da683d1293a4d", func := "mortmain/mortmainlaw17.RecordAll", spec := "recordAll", inPlace := ["internal/abi.NoEscape"], apart := false }
def RecordAllSaid : Prop := recordAllRow.holds Try.pinned (OpenSpec.ofChange recordAllSpec)

/-- ITS FALSE NEIGHBOUR: 'it returns false'. Refute it at one input. -/
def recordAllWrong : ChangeSpec := { name := "recordAll", fn := fun _ => fun
  | [d] => { results := [.lit (.bool false)], args := [d] }
  | _ => none }
def RecordAllWrongFalsely : Prop := recordAllRow.holds Try.pinned (OpenSpec.ofChange recordAllWrong)

/-- 'mortmainlaw20.MailBytes': WHATEVER THE INPUT: true; the input reads as it did. -/
def mailBytesSpec : ChangeSpec := { name := "mailBytes", fn := fun _ => fun
  | [d] => { results := [.lit (.bool true)], args := [d] }
  | _ => none }
def mailBytesRow : OpenClaim := { program := "ytoanelahjgaojaa", sum := "b421a2761127e1bf97b0070cab6f1d954254c808d71bf003ed9da683d1293a4d", func := "mortmain/mortmainlaw20.MailBytes", spec := "mailBytes", inPlace := ["internal/abi.NoEscape"], apart := false }
def MailBytesSaid : Prop := mailBytesRow.holds Try.pinned (OpenSpec.ofChange mailBytesSpec)

/-- ITS FALSE NEIGHBOUR: 'it returns false'. Refute it at one input. -/
def mailBytesWrong : ChangeSpec := { name := "mailBytes", fn := fun _ => fun
  | [d] => { results := [.lit (.bool false)], args := [d] }
  | _ => none }
def MailBytesWrongFalsely : Prop := mailBytesRow.holds Try.pinned (OpenSpec.ofChange mailBytesWrong)

/-- 'mortmainlaw20.MailReads': WHATEVER THE INPUT: true; the input reads as it did. -/
def mailReadsSpec : ChangeSpec := { name := "mailReads", fn := fun _ => fun
  | [d] => { results := [.lit (.bool true)], args := [d] }
  | _ => none }
def mailReadsRow : OpenClaim := { program := "ytoanelahjgaojaa", sum := "b421a2761127e1bf97b0070cab6f1d954254c808d71bf003ed9da683d1293a4d", func := "mortmain/mortmainlaw20.MailReads", spec := "mailReads", inPlace := ["internal/abi.NoEscape"], apart := false }
def MailReadsSaid : Prop := mailReadsRow.holds Try.pinned (OpenSpec.ofChange mailReadsSpec)

/-- ITS FALSE NEIGHBOUR: 'it returns false'. Refute it at one input. -/
def mailReadsWrong : ChangeSpec := { name := "mailReads", fn := fun _ => fun
  | [d] => { results := [.lit (.bool false)], args := [d] }
  | _ => none }
def MailReadsWrongFalsely : Prop := mailReadsRow.holds Try.pinned (OpenSpec.ofChange mailReadsWrong)

/-- 'mortmainlaw20.MailTurned': WHATEVER THE INPUT: true; the input reads as it did. -/
def mailTurnedSpec : ChangeSpec := { name := "mailTurned", fn := fun _ => fun
  | [d1, d2, d3, d4] => { results := [.lit (.bool true)], args := [d1, d2, d3, d4] }
  | _ => none }
def mailTurnedRow : OpenClaim := { program := "ytoanelahjgaojaa", sum := "b421a2761127e1bf97b0070cab6f1d954254c808d71bf003ed9da683d1293a4d", func := "mortmain/mortmainlaw20.MailTurned", spec := "mailTurned", inPlace := ["internal/abi.NoEscape"], apart := false }
def MailTurnedSaid : Prop := mailTurnedRow.holds Try.pinned (OpenSpec.ofChange mailTurnedSpec)

/-- ITS FALSE NEIGHBOUR: 'it returns false'. Refute it at one input. -/
def mailTurnedWrong : ChangeSpec := { name := "mailTurned", fn := fun _ => fun
  | [d1, d2, d3, d4] => { results := [.lit (.bool false)], args := [d1, d2, d3, d4] }
  | _ => none }
def MailTurnedWrongFalsely : Prop := mailTurnedRow.holds Try.pinned (OpenSpec.ofChange mailTurnedWrong)

/-- 'mortmainlaw20.MailOne': WHATEVER THE INPUT: true; the input reads as it did. -/
def mailOneSpec : ChangeSpec := { name := "mailOne", fn := fun _ => fun
  | [d1, d2] => { results := [.lit (.bool true)], args := [d1, d2] }
  | _ => none }
def mailOneRow : OpenClaim := { program := "ytoanelahjgaojaa", sum := "b421a2761127e1bf97b0070cab6f1d954254c808d71bf003ed9da683d1293a4d", func := "mortmain/mortmainlaw20.MailOne", spec := "mailOne", inPlace := ["internal/abi.NoEscape"], apart := false }
def MailOneSaid : Prop := mailOneRow.holds Try.pinned (OpenSpec.ofChange mailOneSpec)

/-- ITS FALSE NEIGHBOUR: 'it returns false'. Refute it at one input. -/
def mailOneWrong : ChangeSpec := { name := "mailOne", fn := fun _ => fun
  | [d1, d2] => { results := [.lit (.bool false)], args := [d1, d2] }
  | _ => none }
def MailOneWrongFalsely : Prop := mailOneRow.holds Try.pinned (OpenSpec.ofChange mailOneWrong)

/- THE SECOND FORM. 'bulk': how many values and letters a reading holds, each counted each time it is reached (what is shared counts as often as it is met; a slice's spare places count too). A statement '..UptoSaid' is the law's where the arguments, and the package variables that the reading takes, are together of bulk at most 1048576: NARROWER than '..Said'. Prove '..Said' where nothing that the law and all that it calls make is longer than what came in: it says more and counts as full. Else prove '..UptoSaid'. A law counts once. -/
mutual
def uptoBulk {H : Type} : DataW H → Nat
  | .lit (.string bytes) => bytes.length + 1
  | .lit _ => 1
  | .nil => 1
  | .ptr d => uptoBulk d + 1
  | .slice elems spare => uptoBulkAll elems + uptoBulkAll spare + 1
  | .agg parts => uptoBulkAll parts + 1
  | .iface _ d => uptoBulk d + 1
  | .map entries => uptoBulkEntries entries + 1
  | .held _ => 1
def uptoBulkAll {H : Type} : List (DataW H) → Nat
  | [] => 0
  | d :: r => uptoBulk d + uptoBulkAll r
def uptoBulkEntries {H : Type} : List (Lit × DataW H) → Nat
  | [] => 0
  | x :: r => uptoBulkEntry x + uptoBulkEntries r
def uptoBulkEntry {H : Type} : Lit × DataW H → Nat
  | (.string bytes, d) => bytes.length + uptoBulk d + 1
  | (_, d) => uptoBulk d + 1
 end
def uptoSmall : (H : Type) → List (DataW H) → Bool := fun _ ds => decide (uptoBulkAll ds ≤ 1048576)
def OpenSpec.upto (s : _root_.Go.ChangeSpec) : _root_.Go.OpenSpec := { _root_.Go.OpenSpec.ofChange s with cond := some uptoSmall }

/-- 'mortmainlaw17.RecordOne', WHERE WHAT IT READS IS OF BULK AT MOST 1048576: true; the input reads as it did. -/
def recordOneUptoRow : OpenClaim := { program := "ytoanelahjgaojaa", sum := "b421a2761127e1bf97b0070cab6f1d954254c808d71bf003ed9da683d1293a4d", func := "mortmain/mortmainlaw17.RecordOne", spec := "recordOne", inPlace := ["internal/abi.NoEscape"], apart := false, narrowed := true }
def RecordOneUptoSaid : Prop := recordOneUptoRow.holds Try.pinned (OpenSpec.upto recordOneSpec)

/-- 'mortmainlaw17.RecordSmall', WHERE WHAT IT READS IS OF BULK AT MOST 1048576: true; the input reads as it did. -/
def recordSmallUptoRow : OpenClaim := { program := "ytoanelahjgaojaa", sum := "b421a2761127e1bf97b0070cab6f1d954254c808d71bf003ed9da683d1293a4d", func := "mortmain/mortmainlaw17.RecordSmall", spec := "recordSmall", inPlace := ["internal/abi.NoEscape"], apart := false, narrowed := true }
def RecordSmallUptoSaid : Prop := recordSmallUptoRow.holds Try.pinned (OpenSpec.upto recordSmallSpec)

/-- 'mortmainlaw17.RecordBytes', WHERE WHAT IT READS IS OF BULK AT MOST 1048576: true; the input reads as it did. -/
def recordBytesUptoRow : OpenClaim := { program := "ytoanelahjgaojaa", sum := "b421a2761127e1bf97b0070cab6f1d954254c808d71bf003ed9da683d1293a4d", func := "mortmain/mortmainlaw17.RecordBytes", spec := "recordBytes", inPlace := ["internal/abi.NoEscape"], apart := false, narrowed := true }
def RecordBytesUptoSaid : Prop := recordBytesUptoRow.holds Try.pinned (OpenSpec.upto recordBytesSpec)

/-- 'mortmainlaw17.RecordReads', WHERE WHAT IT READS IS OF BULK AT MOST 1048576: true; the input reads as it did. -/
def recordReadsUptoRow : OpenClaim := { program := "ytoanelahjgaojaa", sum := "b421a2761127e1bf97b0070cab6f1d954254c808d71bf003ed9da683d1293a4d", func := "mortmain/mortmainlaw17.RecordReads", spec := "recordReads", inPlace := ["internal/abi.NoEscape"], apart := false, narrowed := true }
def RecordReadsUptoSaid : Prop := recordReadsUptoRow.holds Try.pinned (OpenSpec.upto recordReadsSpec)

/-- 'mortmainlaw17.RecordAll', WHERE WHAT IT READS IS OF BULK AT MOST 1048576: true; the input reads as it did. -/
def recordAllUptoRow : OpenClaim := { program := "ytoanelahjgaojaa", sum := "b421a2761127e1bf97b0070cab6f1d954254c808d71bf003ed9da683d1293a4d", func := "mortmain/mortmainlaw17.RecordAll", spec := "recordAll", inPlace := ["internal/abi.NoEscape"], apart := false, narrowed := true }
def RecordAllUptoSaid : Prop := recordAllUptoRow.holds Try.pinned (OpenSpec.upto recordAllSpec)

/-- 'mortmainlaw20.MailBytes', WHERE WHAT IT READS IS OF BULK AT MOST 1048576: true; the input reads as it did. -/
def mailBytesUptoRow : OpenClaim := { program := "ytoanelahjgaojaa", sum := "b421a2761127e1bf97b0070cab6f1d954254c808d71bf003ed9da683d1293a4d", func := "mortmain/mortmainlaw20.MailBytes", spec := "mailBytes", inPlace := ["internal/abi.NoEscape"], apart := false, narrowed := true }
def MailBytesUptoSaid : Prop := mailBytesUptoRow.holds Try.pinned (OpenSpec.upto mailBytesSpec)

/-- 'mortmainlaw20.MailReads', WHERE WHAT IT READS IS OF BULK AT MOST 1048576: true; the input reads as it did. -/
def mailReadsUptoRow : OpenClaim := { program := "ytoanelahjgaojaa", sum := "b421a2761127e1bf97b0070cab6f1d954254c808d71bf003ed9da683d1293a4d", func := "mortmain/mortmainlaw20.MailReads", spec := "mailReads", inPlace := ["internal/abi.NoEscape"], apart := false, narrowed := true }
def MailReadsUptoSaid : Prop := mailReadsUptoRow.holds Try.pinned (OpenSpec.upto mailReadsSpec)

/-- 'mortmainlaw20.MailTurned', WHERE WHAT IT READS IS OF BULK AT MOST 1048576: true; the input reads as it did. -/
def mailTurnedUptoRow : OpenClaim := { program := "ytoanelahjgaojaa", sum := "b421a2761127e1bf97b0070cab6f1d954254c808d71bf003ed9da683d1293a4d", func := "mortmain/mortmainlaw20.MailTurned", spec := "mailTurned", inPlace := ["internal/abi.NoEscape"], apart := false, narrowed := true }
def MailTurnedUptoSaid : Prop := mailTurnedUptoRow.holds Try.pinned (OpenSpec.upto mailTurnedSpec)

/-- 'mortmainlaw20.MailOne', WHERE WHAT IT READS IS OF BULK AT MOST 1048576: true; the input reads as it did. -/
def mailOneUptoRow : OpenClaim := { program := "ytoanelahjgaojaa", sum := "b421a2761127e1bf97b0070cab6f1d954254c808d71bf003ed9da683d1293a4d", func := "mortmain/mortmainlaw20.MailOne", spec := "mailOne", inPlace := ["internal/abi.NoEscape"], apart := false, narrowed := true }
def MailOneUptoSaid : Prop := mailOneUptoRow.holds Try.pinned (OpenSpec.upto mailOneSpec)

end Rows
end Go.Proofs.Ytoanelahjgaojaa
