/-
  No cell of these rows narrows 'for every input' (looked for: loops, veiled, ifaces, maps, wideKeys, modest, calm, conditions, laid).
  DERIVED. THE GIVEN ROWS OF THIS SEAT. 8 by the template 'for every input the law returns true; each argument reads behind the call as it read before'; 0 by the template 'total and deterministic' (their statements: YtkifcmlehiidiaaTotals.lean).
  GIVEN WITH THE SEED: the statements are not yours to turn. If you find one false, say at which input.
  Laid BY PROGRAM, IN A SANDBOX (cutbox-rows.mjs): the forced cells as the released guide's own fill.sh prints them over the translation 4cfde8c3285789c6… (all of the seat's roots in one cut). By AI agents, Wed Nov 11 2026. No macro, syntax, notation, axiom, sorry.
-/
import Derived.Test.YtkifcmlehiidiaaChecked
import GoSem.Claim
import GoSem.ClaimJoined
import GoSem.ClaimMapViews
import Derived.JoinedTies
import Derived.KernelRfl
namespace Go.Proofs.Ytkifcmlehiidiaa
/- THE CELL 'sum', in the pinned program and in every row, IS THE sha256 OF THE DUMP (.gsa) THAT YtkifcmlehiidiaaProg.lean LOADS. Nothing in Lean hashes anything: it is a label: what it is worth is what the hold of that sum in a sandbox is worth. -/
noncomputable def Try.pinned : Pinned := { name := "ytkifcmlehiidiaa", sum := "4cfde8c3285789c66ee854073b6eef8fc9a2b0a59cb4cdefa97ee59b66e7ea56", checked := Try.checked }
namespace Rows
def none {H : Type} : Left H := { results := [], args := [] }

/-- 'mortmainlaw04.CrcIs': WHATEVER THE INPUT: true; the input reads as it did. -/
def crcIsSpec : ChangeSpec := { name := "crcIs", fn := fun _ => fun
  | [d1, d2, d3] => { results := [.lit (.bool true)], args := [d1, d2, d3] }
  | _ => none }
def crcIsRow : OpenClaim := { program := "ytkifcmlehiidiaa", sum := "4cfde8c3285789c66ee854073b6eef8fc9a2b0a59cb4cdefa97ee59b66e7ea56", func := "mortmain/mortmainlaw04.CrcIs", spec := "crcIs", apart := false }
def CrcIsSaid : Prop := crcIsRow.holds Try.pinned (OpenSpec.ofChange crcIsSpec)

/-- ITS FALSE NEIGHBOUR: 'it returns false'. Refute it at one input. -/
def crcIsWrong : ChangeSpec := { name := "crcIs", fn := fun _ => fun
  | [d1, d2, d3] => { results := [.lit (.bool false)], args := [d1, d2, d3] }
  | _ => none }
def CrcIsWrongFalsely : Prop := crcIsRow.holds Try.pinned (OpenSpec.ofChange crcIsWrong)

/-- 'mortmainlaw04.CrcChecks': WHATEVER THE INPUT: true; the input reads as it did. -/
def crcChecksSpec : ChangeSpec := { name := "crcChecks", fn := fun _ => fun
  | [d] => { results := [.lit (.bool true)], args := [d] }
  | _ => none }
def crcChecksRow : OpenClaim := { program := "ytkifcmlehiidiaa", sum := "4cfde8c3285789c66ee854073b6eef8fc9a2b0a59cb4cdefa97ee59b66e7ea56", func := "mortmain/mortmainlaw04.CrcChecks", spec := "crcChecks", apart := false }
def CrcChecksSaid : Prop := crcChecksRow.holds Try.pinned (OpenSpec.ofChange crcChecksSpec)

/-- ITS FALSE NEIGHBOUR: 'it returns false'. Refute it at one input. -/
def crcChecksWrong : ChangeSpec := { name := "crcChecks", fn := fun _ => fun
  | [d] => { results := [.lit (.bool false)], args := [d] }
  | _ => none }
def CrcChecksWrongFalsely : Prop := crcChecksRow.holds Try.pinned (OpenSpec.ofChange crcChecksWrong)

/-- 'mortmainlaw04.CrcBits': WHATEVER THE INPUT: true; the input reads as it did. -/
def crcBitsSpec : ChangeSpec := { name := "crcBits", fn := fun _ => fun
  | [d1, d2, d3, d4, d5] => { results := [.lit (.bool true)], args := [d1, d2, d3, d4, d5] }
  | _ => none }
def crcBitsRow : OpenClaim := { program := "ytkifcmlehiidiaa", sum := "4cfde8c3285789c66ee854073b6eef8fc9a2b0a59cb4cdefa97ee59b66e7ea56", func := "mortmain/mortmainlaw04.CrcBits", spec := "crcBits", apart := false }
def CrcBitsSaid : Prop := crcBitsRow.holds Try.pinned (OpenSpec.ofChange crcBitsSpec)

/-- ITS FALSE NEIGHBOUR: 'it returns false'. Refute it at one input. -/
def crcBitsWrong : ChangeSpec := { name := "crcBits", fn := fun _ => fun
  | [d1, d2, d3, d4, d5] => { results := [.lit (.bool false)], args := [d1, d2, d3, d4, d5] }
  | _ => none }
def CrcBitsWrongFalsely : Prop := crcBitsRow.holds Try.pinned (OpenSpec.ofChange crcBitsWrong)

/-- 'mortmainlaw01.PackOne': WHATEVER THE INPUT: true; the input reads as it did. -/
def packOneSpec : ChangeSpec := { name := "packOne", fn := fun _ => fun
  | [d1, d2, d3, d4] => { results := [.lit (.bool true)], args := [d1, d2, d3, d4] }
  | _ => none }
def packOneRow : OpenClaim := { program := "ytkifcmlehiidiaa", sum := "4cfde8c3285789c66ee854073b6eef8fc9a2b0a59cb4cdefa97ee59b66e7ea56", func := "mortmain/mortmainlaw01.PackOne", spec := "packOne", inPlace := ["internal/abi.NoEscape"], apart := false }
def PackOneSaid : Prop := packOneRow.holds Try.pinned (OpenSpec.ofChange packOneSpec)

/-- ITS FALSE NEIGHBOUR: 'it returns false'. Refute it at one input. -/
def packOneWrong : ChangeSpec := { name := "packOne", fn := fun _ => fun
  | [d1, d2, d3, d4] => { results := [.lit (.bool false)], args := [d1, d2, d3, d4] }
  | _ => none }
def PackOneWrongFalsely : Prop := packOneRow.holds Try.pinned (OpenSpec.ofChange packOneWrong)

/-- 'mortmainlaw01.PackWrites': WHATEVER THE INPUT: true; the input reads as it did. -/
def packWritesSpec : ChangeSpec := { name := "packWrites", fn := fun _ => fun
  | [d1, d2, d3] => { results := [.lit (.bool true)], args := [d1, d2, d3] }
  | _ => none }
def packWritesRow : OpenClaim := { program := "ytkifcmlehiidiaa", sum := "4cfde8c3285789c66ee854073b6eef8fc9a2b0a59cb4cdefa97ee59b66e7ea56", func := "mortmain/mortmainlaw01.PackWrites", spec := "packWrites", inPlace := ["internal/abi.NoEscape"], apart := false }
def PackWritesSaid : Prop := packWritesRow.holds Try.pinned (OpenSpec.ofChange packWritesSpec)

/-- ITS FALSE NEIGHBOUR: 'it returns false'. Refute it at one input. -/
def packWritesWrong : ChangeSpec := { name := "packWrites", fn := fun _ => fun
  | [d1, d2, d3] => { results := [.lit (.bool false)], args := [d1, d2, d3] }
  | _ => none }
def PackWritesWrongFalsely : Prop := packWritesRow.holds Try.pinned (OpenSpec.ofChange packWritesWrong)

/-- 'mortmainlaw01.PackCuts': WHATEVER THE INPUT: true; the input reads as it did. -/
def packCutsSpec : ChangeSpec := { name := "packCuts", fn := fun _ => fun
  | [d1, d2] => { results := [.lit (.bool true)], args := [d1, d2] }
  | _ => none }
def packCutsRow : OpenClaim := { program := "ytkifcmlehiidiaa", sum := "4cfde8c3285789c66ee854073b6eef8fc9a2b0a59cb4cdefa97ee59b66e7ea56", func := "mortmain/mortmainlaw01.PackCuts", spec := "packCuts", inPlace := ["internal/abi.NoEscape"], apart := false }
def PackCutsSaid : Prop := packCutsRow.holds Try.pinned (OpenSpec.ofChange packCutsSpec)

/-- ITS FALSE NEIGHBOUR: 'it returns false'. Refute it at one input. -/
def packCutsWrong : ChangeSpec := { name := "packCuts", fn := fun _ => fun
  | [d1, d2] => { results := [.lit (.bool false)], args := [d1, d2] }
  | _ => none }
def PackCutsWrongFalsely : Prop := packCutsRow.holds Try.pinned (OpenSpec.ofChange packCutsWrong)

/-- 'mortmainlaw01.PackReads': WHATEVER THE INPUT: true; the input reads as it did. -/
def packReadsSpec : ChangeSpec := { name := "packReads", fn := fun _ => fun
  | [d1, d2, d3] => { results := [.lit (.bool true)], args := [d1, d2, d3] }
  | _ => none }
def packReadsRow : OpenClaim := { program := "ytkifcmlehiidiaa", sum := "4cfde8c3285789c66ee854073b6eef8fc9a2b0a59cb4cdefa97ee59b66e7ea56", func := "mortmain/mortmainlaw01.PackReads", spec := "packReads", inPlace := ["internal/abi.NoEscape"], apart := false }
def PackReadsSaid : Prop := packReadsRow.holds Try.pinned (OpenSpec.ofChange packReadsSpec)

/-- ITS FALSE NEIGHBOUR: 'it returns false'. Refute it at one input. -/
def packReadsWrong : ChangeSpec := { name := "packReads", fn := fun _ => fun
  | [d1, d2, d3] => { results := [.lit (.bool false)], args := [d1, d2, d3] }
  | _ => none }
def PackReadsWrongFalsely : Prop := packReadsRow.holds Try.pinned (OpenSpec.ofChange packReadsWrong)

/-- 'mortmainlaw01.PackBack': WHATEVER THE INPUT: true; the input reads as it did. -/
def packBackSpec : ChangeSpec := { name := "packBack", fn := fun _ => fun
  | [d1, d2, d3] => { results := [.lit (.bool true)], args := [d1, d2, d3] }
  | _ => none }
def packBackRow : OpenClaim := { program := "ytkifcmlehiidiaa", sum := "4cfde8c3285789c66ee854073b6eef8fc9a2b0a59cb4cdefa97ee59b66e7ea56", func := "mortmain/mortmainlaw01.PackBack", spec := "packBack", inPlace := ["internal/abi.NoEscape"], apart := false }
def PackBackSaid : Prop := packBackRow.holds Try.pinned (OpenSpec.ofChange packBackSpec)

/-- ITS FALSE NEIGHBOUR: 'it returns false'. Refute it at one input. -/
def packBackWrong : ChangeSpec := { name := "packBack", fn := fun _ => fun
  | [d1, d2, d3] => { results := [.lit (.bool false)], args := [d1, d2, d3] }
  | _ => none }
def PackBackWrongFalsely : Prop := packBackRow.holds Try.pinned (OpenSpec.ofChange packBackWrong)

/- THE SECOND FORM. 'bulk': how many values and letters a reading holds, each counted each time it is reached (what is shared counts as often as it is met; a slice's spare places count too). A statement '..UptoSaid' is the law's where the arguments, and the package variables that the reading takes, are together of bulk at most 1048576: NARROWER than '..Said'. Prove '..Said' where nothing that the law and all that it calls make is longer than what came in: it says more and counts as full. Else prove '..UptoSaid'. A law counts once. -/
mutual
def uptoBulk {H : Type} : DataW H → Nat
  | .lit (.string bytes) => bytes.length + 1
  | .lit _ => 1
  | .nil => 1
  | .ptr d => uptoBulk d + 1
  | .slice elems spare => uptoBulkAll elems + uptoBulkAll spare + 1
  | .agg parts => uptoBulkAll parts + 1
  | .iface _ d => uptoBulk d + 1
  | .map entries => uptoBulkEntries entries + 1
  | .held _ => 1
def uptoBulkAll {H : Type} : List (DataW H) → Nat
  | [] => 0
  | d :: r => uptoBulk d + uptoBulkAll r
def uptoBulkEntries {H : Type} : List (Lit × DataW H) → Nat
  | [] => 0
  | x :: r => uptoBulkEntry x + uptoBulkEntries r
def uptoBulkEntry {H : Type} : Lit × DataW H → Nat
  | (.string bytes, d) => bytes.length + uptoBulk d + 1
  | (_, d) => uptoBulk d + 1
 end
def uptoSmall : (H : Type) → List (DataW H) → Bool := fun _ ds => decide (uptoBulkAll ds ≤ 1048576)
def OpenSpec.upto (s : _root_.Go.ChangeSpec) : _root_.Go.OpenSpec := { _root_.Go.OpenSpec.ofChange s with cond := some uptoSmall }

/-- 'mortmainlaw04.CrcIs', WHERE WHAT IT READS IS OF BULK AT MOST 1048576: true; the input reads as it did. -/
def crcIsUptoRow : OpenClaim := { program := "ytkifcmlehiidiaa", sum := "4cfde8c3285789c66ee854073b6eef8fc9a2b0a59cb4cdefa97ee59b66e7ea56", func := "mortmain/mortmainlaw04.CrcIs", spec := "crcIs", apart := false, narrowed := true }
def CrcIsUptoSaid : Prop := crcIsUptoRow.holds Try.pinned (OpenSpec.upto crcIsSpec)

/-- 'mortmainlaw04.CrcChecks', WHERE WHAT IT READS IS OF BULK AT MOST 1048576: true; the input reads as it did. -/
def crcChecksUptoRow : OpenClaim := { program := "ytkifcmlehiidiaa", sum := "4cfde8c3285789c66ee854073b6eef8fc9a2b0a59cb4cdefa97ee59b66e7ea56", func := "mortmain/mortmainlaw04.CrcChecks", spec := "crcChecks", apart := false, narrowed := true }
def CrcChecksUptoSaid : Prop := crcChecksUptoRow.holds Try.pinned (OpenSpec.upto crcChecksSpec)

/-- 'mortmainlaw04.CrcBits', WHERE WHAT IT READS IS OF BULK AT MOST 1048576: true; the input reads as it did. -/
def crcBitsUptoRow : OpenClaim := { program := "ytkifcmlehiidiaa", sum := "4cfde8c3285789c66ee854073b6eef8fc9a2b0a59cb4cdefa97ee59b66e7ea56", func := "mortmain/mortmainlaw04.CrcBits", spec := "crcBits", apart := false, narrowed := true }
def CrcBitsUptoSaid : Prop := crcBitsUptoRow.holds Try.pinned (OpenSpec.upto crcBitsSpec)

/-- 'mortmainlaw01.PackOne', WHERE WHAT IT READS IS OF BULK AT MOST 1048576: true; the input reads as it did. -/
def packOneUptoRow : OpenClaim := { program := "ytkifcmlehiidiaa", sum := "4cfde8c3285789c66ee854073b6eef8fc9a2b0a59cb4cdefa97ee59b66e7ea56", func := "mortmain/mortmainlaw01.PackOne", spec := "packOne", inPlace := ["internal/abi.NoEscape"], apart := false, narrowed := true }
def PackOneUptoSaid : Prop := packOneUptoRow.holds Try.pinned (OpenSpec.upto packOneSpec)

/-- 'mortmainlaw01.PackWrites', WHERE WHAT IT READS IS OF BULK AT MOST 1048576: true; the input reads as it did. -/
def packWritesUptoRow : OpenClaim := { program := "ytkifcmlehiidiaa", sum := "4cfde8c3285789c66ee854073b6eef8fc9a2b0a59cb4cdefa97ee59b66e7ea56", func := "mortmain/mortmainlaw01.PackWrites", spec := "packWrites", inPlace := ["internal/abi.NoEscape"], apart := false, narrowed := true }
def PackWritesUptoSaid : Prop := packWritesUptoRow.holds Try.pinned (OpenSpec.upto packWritesSpec)

/-- 'mortmainlaw01.PackCuts', WHERE WHAT IT READS IS OF BULK AT MOST 1048576: true; the input reads as it did. -/
def packCutsUptoRow : OpenClaim := { program := "ytkifcmlehiidiaa", sum := "4cfde8c3285789c66ee854073b6eef8fc9a2b0a59cb4cdefa97ee59b66e7ea56", func := "mortmain/mortmainlaw01.PackCuts", spec := "packCuts", inPlace := ["internal/abi.NoEscape"], apart := false, narrowed := true }
def PackCutsUptoSaid : Prop := packCutsUptoRow.holds Try.pinned (OpenSpec.upto packCutsSpec)

/-- 'mortmainlaw01.PackReads', WHERE WHAT IT READS IS OF BULK AT MOST 1048576: true; the input reads as it did. -/
def packReadsUptoRow : OpenClaim := { program := "ytkifcmlehiidiaa", sum := "4cfde8c3285789c66ee854073b6eef8fc9a2b0a59cb4cdefa97ee59b66e7ea56", func := "mortmain/mortmainlaw01.PackReads", spec := "packReads", inPlace := ["internal/abi.NoEscape"], apart := false, narrowed := true }
def PackReadsUptoSaid : Prop := packReadsUptoRow.holds Try.pinned (OpenSpec.upto packReadsSpec)

/-- 'mortmainlaw01.PackBack', WHERE WHAT IT READS IS OF BULK AT MOST 1048576: true; the input reads as it did. -/
def packBackUptoRow : OpenClaim := { program := "ytkifcmlehiidiaa", sum := "4cfde8c3285789c66ee854073b6eef8fc9a2b0a59cb4cdefa97ee59b66e7ea56", func := "mortmain/mortmainlaw01.PackBack", spec := "packBack", inPlace := ["internal/abi.NoEscape"], apart := false, narrowed := true }
def PackBackUptoSaid : Prop := packBackUptoRow.holds Try.pinned (OpenSpec.upto packBackSpec)

end Rows
end Go.Proofs.Ytkifcmlehiidiaa
