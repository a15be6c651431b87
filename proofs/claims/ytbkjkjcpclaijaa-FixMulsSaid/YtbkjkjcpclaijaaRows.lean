/-
  No cell of these rows narrows 'for every input' (looked for: loops, veiled, ifaces, maps, wideKeys, modest, calm, conditions, laid).
  DERIVED. THE GIVEN ROWS OF THIS SEAT. 12 by the template 'for every input the law returns true; each argument reads behind the call as it read before'; 0 by the template 'total and deterministic' (their statements: YtbkjkjcpclaijaaTotals.lean).
  GIVEN WITH THE SEED: the statements are not yours to turn. If you find one false, say at which input.
  Laid BY PROGRAM, IN A SANDBOX (cutbox-rows.mjs): the forced cells as the released guide's own fill.sh prints them over the translation f4a62cf27d59bff2… (all of the seat's roots in one cut). By AI agents, Wed Nov 11 2026. No macro, syntax, notation, axiom, sorry.
-/
import Derived.Test.YtbkjkjcpclaijaaChecked
import GoSem.Claim
import GoSem.ClaimJoined
import GoSem.ClaimMapViews
import Derived.JoinedTies
import Derived.KernelRfl
namespace Go.Proofs.Ytbkjkjcpclaijaa
/- THE CELL 'sum', in the pinned program and in every row, IS THE sha256 OF THE DUMP (.gsa) THAT YtbkjkjcpclaijaaProg.lean LOADS. Nothing in Lean hashes anything: it is a label: what it is worth is what the hold of that sum in a sandbox is worth. -/
noncomputable def Try.pinned : Pinned := { name := "ytbkjkjcpclaijaa", sum := "f4a62cf27d59bff2bc9317ba77c2121947464af117087f44494f8aeb3a15e6d9", checked := Try.checked }
namespace Rows
def none {H : Type} : Left H := { results := [], args := [] }

/-- 'mutoscopelaw01.CrcSums': WHATEVER THE INPUT: true; the input reads as it did. -/
def crcSumsSpec : ChangeSpec := { name := "crcSums", fn := fun _ => fun
  | [d1, d2, d3] => { results := [.lit (.bool true)], args := [d1, d2, d3] }
  | _ => none }
def crcSumsRow : OpenClaim := { program := "ytbkjkjcpclaijaa", sum := "f4a62cf27d59bff2bc9317ba77c2121947464af117087f44494f8aeb3a15e6d9", func := "mutoscope/mutoscopelaw01.CrcSums", spec := "crcSums", apart := false }
def CrcSumsSaid : Prop := crcSumsRow.holds Try.pinned (OpenSpec.ofChange crcSumsSpec)

/-- ITS FALSE NEIGHBOUR: 'it returns false'. Refute it at one input. -/
def crcSumsWrong : ChangeSpec := { name := "crcSums", fn := fun _ => fun
  | [d1, d2, d3] => { results := [.lit (.bool false)], args := [d1, d2, d3] }
  | _ => none }
def CrcSumsWrongFalsely : Prop := crcSumsRow.holds Try.pinned (OpenSpec.ofChange crcSumsWrong)

/-- 'mutoscopelaw01.CrcNext': WHATEVER THE INPUT: true; the input reads as it did. -/
def crcNextSpec : ChangeSpec := { name := "crcNext", fn := fun _ => fun
  | [d1, d2] => { results := [.lit (.bool true)], args := [d1, d2] }
  | _ => none }
def crcNextRow : OpenClaim := { program := "ytbkjkjcpclaijaa", sum := "f4a62cf27d59bff2bc9317ba77c2121947464af117087f44494f8aeb3a15e6d9", func := "mutoscope/mutoscopelaw01.CrcNext", spec := "crcNext", apart := false }
def CrcNextSaid : Prop := crcNextRow.holds Try.pinned (OpenSpec.ofChange crcNextSpec)

/-- ITS FALSE NEIGHBOUR: 'it returns false'. Refute it at one input. -/
def crcNextWrong : ChangeSpec := { name := "crcNext", fn := fun _ => fun
  | [d1, d2] => { results := [.lit (.bool false)], args := [d1, d2] }
  | _ => none }
def CrcNextWrongFalsely : Prop := crcNextRow.holds Try.pinned (OpenSpec.ofChange crcNextWrong)

/-- 'mutoscopelaw01.CrcBurst': WHATEVER THE INPUT: true; the input reads as it did. -/
def crcBurstSpec : ChangeSpec := { name := "crcBurst", fn := fun _ => fun
  | [d1, d2, d3] => { results := [.lit (.bool true)], args := [d1, d2, d3] }
  | _ => none }
def crcBurstRow : OpenClaim := { program := "ytbkjkjcpclaijaa", sum := "f4a62cf27d59bff2bc9317ba77c2121947464af117087f44494f8aeb3a15e6d9", func := "mutoscope/mutoscopelaw01.CrcBurst", spec := "crcBurst", apart := false }
def CrcBurstSaid : Prop := crcBurstRow.holds Try.pinned (OpenSpec.ofChange crcBurstSpec)

/-- ITS FALSE NEIGHBOUR: 'it returns false'. Refute it at one input. -/
def crcBurstWrong : ChangeSpec := { name := "crcBurst", fn := fun _ => fun
  | [d1, d2, d3] => { results := [.lit (.bool false)], args := [d1, d2, d3] }
  | _ => none }
def CrcBurstWrongFalsely : Prop := crcBurstRow.holds Try.pinned (OpenSpec.ofChange crcBurstWrong)

/-- 'mutoscopelaw01.CrcLinear': WHATEVER THE INPUT: true; the input reads as it did. -/
def crcLinearSpec : ChangeSpec := { name := "crcLinear", fn := fun _ => fun
  | [d1, d2, d3] => { results := [.lit (.bool true)], args := [d1, d2, d3] }
  | _ => none }
def crcLinearRow : OpenClaim := { program := "ytbkjkjcpclaijaa", sum := "f4a62cf27d59bff2bc9317ba77c2121947464af117087f44494f8aeb3a15e6d9", func := "mutoscope/mutoscopelaw01.CrcLinear", spec := "crcLinear", apart := false }
def CrcLinearSaid : Prop := crcLinearRow.holds Try.pinned (OpenSpec.ofChange crcLinearSpec)

/-- ITS FALSE NEIGHBOUR: 'it returns false'. Refute it at one input. -/
def crcLinearWrong : ChangeSpec := { name := "crcLinear", fn := fun _ => fun
  | [d1, d2, d3] => { results := [.lit (.bool false)], args := [d1, d2, d3] }
  | _ => none }
def CrcLinearWrongFalsely : Prop := crcLinearRow.holds Try.pinned (OpenSpec.ofChange crcLinearWrong)

/-- 'mutoscopelaw05.FixRounds': WHATEVER THE INPUT: true; the input reads as it did. -/
def fixRoundsSpec : ChangeSpec := { name := "fixRounds", fn := fun _ => fun
  | [d1, d2] => { results := [.lit (.bool true)], args := [d1, d2] }
  | _ => none }
def fixRoundsRow : OpenClaim := { program := "ytbkjkjcpclaijaa", sum := "f4a62cf27d59bff2bc9317ba77c2121947464af117087f44494f8aeb3a15e6d9", func := "mutoscope/mutoscopelaw05.FixRounds", spec := "fixRounds", apart := false }
def FixRoundsSaid : Prop := fixRoundsRow.holds Try.pinned (OpenSpec.ofChange fixRoundsSpec)

/-- ITS FALSE NEIGHBOUR: 'it returns false'. Refute it at one input. -/
def fixRoundsWrong : ChangeSpec := { name := "fixRounds", fn := fun _ => fun
  | [d1, d2] => { results := [.lit (.bool false)], args := [d1, d2] }
  | _ => none }
def FixRoundsWrongFalsely : Prop := fixRoundsRow.holds Try.pinned (OpenSpec.ofChange fixRoundsWrong)

/-- 'mutoscopelaw05.FixMuls': WHATEVER THE INPUT: true; the input reads as it did. -/
def fixMulsSpec : ChangeSpec := { name := "fixMuls", fn := fun _ => fun
  | [d1, d2] => { results := [.lit (.bool true)], args := [d1, d2] }
  | _ => none }
def fixMulsRow : OpenClaim := { program := "ytbkjkjcpclaijaa", sum := "f4a62cf27d59bff2bc9317ba77c2121947464af117087f44494f8aeb3a15e6d9", func := "mutoscope/mutoscopelaw05.FixMuls", spec := "fixMuls", apart := false }
def FixMulsSaid : Prop := fixMulsRow.holds Try.pinned (OpenSpec.ofChange fixMulsSpec)

/-- ITS FALSE NEIGHBOUR: 'it returns false'. Refute it at one input. -/
def fixMulsWrong : ChangeSpec := { name := "fixMuls", fn := fun _ => fun
  | [d1, d2] => { results := [.lit (.bool false)], args := [d1, d2] }
  | _ => none }
def FixMulsWrongFalsely : Prop := fixMulsRow.holds Try.pinned (OpenSpec.ofChange fixMulsWrong)

/-- 'mutoscopelaw05.FixDots': WHATEVER THE INPUT: true; the input reads as it did. -/
def fixDotsSpec : ChangeSpec := { name := "fixDots", fn := fun _ => fun
  | [d] => { results := [.lit (.bool true)], args := [d] }
  | _ => none }
def fixDotsRow : OpenClaim := { program := "ytbkjkjcpclaijaa", sum := "f4a62cf27d59bff2bc9317ba77c2121947464af117087f44494f8aeb3a15e6d9", func := "mutoscope/mutoscopelaw05.FixDots", spec := "fixDots", apart := false }
def FixDotsSaid : Prop := fixDotsRow.holds Try.pinned (OpenSpec.ofChange fixDotsSpec)

/-- ITS FALSE NEIGHBOUR: 'it returns false'. Refute it at one input. -/
def fixDotsWrong : ChangeSpec := { name := "fixDots", fn := fun _ => fun
  | [d] => { results := [.lit (.bool false)], args := [d] }
  | _ => none }
def FixDotsWrongFalsely : Prop := fixDotsRow.holds Try.pinned (OpenSpec.ofChange fixDotsWrong)

/-- 'mutoscopelaw05.FixWhole': WHATEVER THE INPUT: true; the input reads as it did. -/
def fixWholeSpec : ChangeSpec := { name := "fixWhole", fn := fun _ => fun
  | [d1, d2] => { results := [.lit (.bool true)], args := [d1, d2] }
  | _ => none }
def fixWholeRow : OpenClaim := { program := "ytbkjkjcpclaijaa", sum := "f4a62cf27d59bff2bc9317ba77c2121947464af117087f44494f8aeb3a15e6d9", func := "mutoscope/mutoscopelaw05.FixWhole", spec := "fixWhole", apart := false }
def FixWholeSaid : Prop := fixWholeRow.holds Try.pinned (OpenSpec.ofChange fixWholeSpec)

/-- ITS FALSE NEIGHBOUR: 'it returns false'. Refute it at one input. -/
def fixWholeWrong : ChangeSpec := { name := "fixWhole", fn := fun _ => fun
  | [d1, d2] => { results := [.lit (.bool false)], args := [d1, d2] }
  | _ => none }
def FixWholeWrongFalsely : Prop := fixWholeRow.holds Try.pinned (OpenSpec.ofChange fixWholeWrong)

/-- 'mutoscopelaw06.RectCuts': WHATEVER THE INPUT: true; the input reads as it did. -/
def rectCutsSpec : ChangeSpec := { name := "rectCuts", fn := fun _ => fun
  | [d1, d2, d3] => { results := [.lit (.bool true)], args := [d1, d2, d3] }
  | _ => none }
def rectCutsRow : OpenClaim := { program := "ytbkjkjcpclaijaa", sum := "f4a62cf27d59bff2bc9317ba77c2121947464af117087f44494f8aeb3a15e6d9", func := "mutoscope/mutoscopelaw06.RectCuts", spec := "rectCuts", apart := false }
def RectCutsSaid : Prop := rectCutsRow.holds Try.pinned (OpenSpec.ofChange rectCutsSpec)

/-- ITS FALSE NEIGHBOUR: 'it returns false'. Refute it at one input. -/
def rectCutsWrong : ChangeSpec := { name := "rectCuts", fn := fun _ => fun
  | [d1, d2, d3] => { results := [.lit (.bool false)], args := [d1, d2, d3] }
  | _ => none }
def RectCutsWrongFalsely : Prop := rectCutsRow.holds Try.pinned (OpenSpec.ofChange rectCutsWrong)

/-- 'mutoscopelaw06.RectForms': WHATEVER THE INPUT: true; the input reads as it did. -/
def rectFormsSpec : ChangeSpec := { name := "rectForms", fn := fun _ => fun
  | [d1, d2] => { results := [.lit (.bool true)], args := [d1, d2] }
  | _ => none }
def rectFormsRow : OpenClaim := { program := "ytbkjkjcpclaijaa", sum := "f4a62cf27d59bff2bc9317ba77c2121947464af117087f44494f8aeb3a15e6d9", func := "mutoscope/mutoscopelaw06.RectForms", spec := "rectForms", apart := false }
def RectFormsSaid : Prop := rectFormsRow.holds Try.pinned (OpenSpec.ofChange rectFormsSpec)

/-- ITS FALSE NEIGHBOUR: 'it returns false'. Refute it at one input. -/
def rectFormsWrong : ChangeSpec := { name := "rectForms", fn := fun _ => fun
  | [d1, d2] => { results := [.lit (.bool false)], args := [d1, d2] }
  | _ => none }
def RectFormsWrongFalsely : Prop := rectFormsRow.holds Try.pinned (OpenSpec.ofChange rectFormsWrong)

/-- 'mutoscopelaw06.RectGrows': WHATEVER THE INPUT: true; the input reads as it did. -/
def rectGrowsSpec : ChangeSpec := { name := "rectGrows", fn := fun _ => fun
  | [d1, d2] => { results := [.lit (.bool true)], args := [d1, d2] }
  | _ => none }
def rectGrowsRow : OpenClaim := { program := "ytbkjkjcpclaijaa", sum := "f4a62cf27d59bff2bc9317ba77c2121947464af117087f44494f8aeb3a15e6d9", func := "mutoscope/mutoscopelaw06.RectGrows", spec := "rectGrows", apart := false }
def RectGrowsSaid : Prop := rectGrowsRow.holds Try.pinned (OpenSpec.ofChange rectGrowsSpec)

/-- ITS FALSE NEIGHBOUR: 'it returns false'. Refute it at one input. -/
def rectGrowsWrong : ChangeSpec := { name := "rectGrows", fn := fun _ => fun
  | [d1, d2] => { results := [.lit (.bool false)], args := [d1, d2] }
  | _ => none }
def RectGrowsWrongFalsely : Prop := rectGrowsRow.holds Try.pinned (OpenSpec.ofChange rectGrowsWrong)

/-- 'mutoscopelaw06.RectTogether': WHATEVER THE INPUT: true; the input reads as it did. -/
def rectTogetherSpec : ChangeSpec := { name := "rectTogether", fn := fun _ => fun
  | [d1, d2, d3] => { results := [.lit (.bool true)], args := [d1, d2, d3] }
  | _ => none }
def rectTogetherRow : OpenClaim := { program := "ytbkjkjcpclaijaa", sum := "f4a62cf27d59bff2bc9317ba77c2121947464af117087f44494f8aeb3a15e6d9", func := "mutoscope/mutoscopelaw06.RectTogether", spec := "rectTogether", apart := false }
def RectTogetherSaid : Prop := rectTogetherRow.holds Try.pinned (OpenSpec.ofChange rectTogetherSpec)

/-- ITS FALSE NEIGHBOUR: 'it returns false'. Refute it at one input. -/
def rectTogetherWrong : ChangeSpec := { name := "rectTogether", fn := fun _ => fun
  | [d1, d2, d3] => { results := [.lit (.bool false)], args := [d1, d2, d3] }
  | _ => none }
def RectTogetherWrongFalsely : Prop := rectTogetherRow.holds Try.pinned (OpenSpec.ofChange rectTogetherWrong)

/- THE SECOND FORM. 'bulk': how many values and letters a reading holds, each counted each time it is reached (what is shared counts as often as it is met; a slice's spare places count too). A statement '..UptoSaid' is the law's where the arguments, and the package variables that the reading takes, are together of bulk at most 1048576: NARROWER than '..Said'. Prove '..Said' where nothing that the law and all that it calls make is longer than what came in: it says more and counts as full. Else prove '..UptoSaid'. A law counts once. -/
mutual
def uptoBulk {H : Type} : DataW H → Nat
  | .lit (.string bytes) => bytes.length + 1
  | .lit _ => 1
  | .nil => 1
  | .ptr d => uptoBulk d + 1
  | .slice elems spare => uptoBulkAll elems + uptoBulkAll spare + 1
  | .agg parts => uptoBulkAll parts + 1
  | .iface _ d => uptoBulk d + 1
  | .map entries => uptoBulkEntries entries + 1
  | .held _ => 1
def uptoBulkAll {H : Type} : List (DataW H) → Nat
  | [] => 0
  | d :: r => uptoBulk d + uptoBulkAll r
def uptoBulkEntries {H : Type} : List (Lit × DataW H) → Nat
  | [] => 0
  | x :: r => uptoBulkEntry x + uptoBulkEntries r
def uptoBulkEntry {H : Type} : Lit × DataW H → Nat
  | (.string bytes, d) => bytes.length + uptoBulk d + 1
  | (_, d) => uptoBulk d + 1
 end
def uptoSmall : (H : Type) → List (DataW H) → Bool := fun _ ds => decide (uptoBulkAll ds ≤ 1048576)
def OpenSpec.upto (s : _root_.Go.ChangeSpec) : _root_.Go.OpenSpec := { _root_.Go.OpenSpec.ofChange s with cond := some uptoSmall }

/-- 'mutoscopelaw01.CrcSums', WHERE WHAT IT READS IS OF BULK AT MOST 1048576: true; the input reads as it did. -/
def crcSumsUptoRow : OpenClaim := { program := "ytbkjkjcpclaijaa", sum := "f4a62cf27d59bff2bc9317ba77c2121947464af117087f44494f8aeb3a15e6d9", func := "mutoscope/mutoscopelaw01.CrcSums", spec := "crcSums", apart := false, narrowed := true }
def CrcSumsUptoSaid : Prop := crcSumsUptoRow.holds Try.pinned (OpenSpec.upto crcSumsSpec)

/-- 'mutoscopelaw01.CrcNext', WHERE WHAT IT READS IS OF BULK AT MOST 1048576: true; the input reads as it did. -/
def crcNextUptoRow : OpenClaim := { program := "ytbkjkjcpclaijaa", sum := "f4a62cf27d59bff2bc9317ba77c2121947464af117087f44494f8aeb3a15e6d9", func := "mutoscope/mutoscopelaw01.CrcNext", spec := "crcNext", apart := false, narrowed := true }
def CrcNextUptoSaid : Prop := crcNextUptoRow.holds Try.pinned (OpenSpec.upto crcNextSpec)

/-- 'mutoscopelaw01.CrcBurst', WHERE WHAT IT READS IS OF BULK AT MOST 1048576: true; the input reads as it did. -/
def crcBurstUptoRow : OpenClaim := { program := "ytbkjkjcpclaijaa", sum := "f4a62cf27d59bff2bc9317ba77c2121947464af117087f44494f8aeb3a15e6d9", func := "mutoscope/mutoscopelaw01.CrcBurst", spec := "crcBurst", apart := false, narrowed := true }
def CrcBurstUptoSaid : Prop := crcBurstUptoRow.holds Try.pinned (OpenSpec.upto crcBurstSpec)

/-- 'mutoscopelaw01.CrcLinear', WHERE WHAT IT READS IS OF BULK AT MOST 1048576: true; the input reads as it did. -/
def crcLinearUptoRow : OpenClaim := { program := "ytbkjkjcpclaijaa", sum := "f4a62cf27d59bff2bc9317ba77c2121947464af117087f44494f8aeb3a15e6d9", func := "mutoscope/mutoscopelaw01.CrcLinear", spec := "crcLinear", apart := false, narrowed := true }
def CrcLinearUptoSaid : Prop := crcLinearUptoRow.holds Try.pinned (OpenSpec.upto crcLinearSpec)

/-- 'mutoscopelaw05.FixRounds', WHERE WHAT IT READS IS OF BULK AT MOST 1048576: true; the input reads as it did. -/
def fixRoundsUptoRow : OpenClaim := { program := "ytbkjkjcpclaijaa", sum := "f4a62cf27d59bff2bc9317ba77c2121947464af117087f44494f8aeb3a15e6d9", func := "mutoscope/mutoscopelaw05.FixRounds", spec := "fixRounds", apart := false, narrowed := true }
def FixRoundsUptoSaid : Prop := fixRoundsUptoRow.holds Try.pinned (OpenSpec.upto fixRoundsSpec)

/-- 'mutoscopelaw05.FixMuls', WHERE WHAT IT READS IS OF BULK AT MOST 1048576: true; the input reads as it did. -/
def fixMulsUptoRow : OpenClaim := { program := "ytbkjkjcpclaijaa", sum := "f4a62cf27d59bff2bc9317ba77c2121947464af117087f44494f8aeb3a15e6d9", func := "mutoscope/mutoscopelaw05.FixMuls", spec := "fixMuls", apart := false, narrowed := true }
def FixMulsUptoSaid : Prop := fixMulsUptoRow.holds Try.pinned (OpenSpec.upto fixMulsSpec)

/-- 'mutoscopelaw05.FixDots', WHERE WHAT IT READS IS OF BULK AT MOST 1048576: true; the input reads as it did. -/
def fixDotsUptoRow : OpenClaim := { program := "ytbkjkjcpclaijaa", sum := "f4a62cf27d59bff2bc9317ba77c2121947464af117087f44494f8aeb3a15e6d9", func := "mutoscope/mutoscopelaw05.FixDots", spec := "fixDots", apart := false, narrowed := true }
def FixDotsUptoSaid : Prop := fixDotsUptoRow.holds Try.pinned (OpenSpec.upto fixDotsSpec)

/-- 'mutoscopelaw05.FixWhole', WHERE WHAT IT READS IS OF BULK AT MOST 1048576: true; the input reads as it did. -/
def fixWholeUptoRow : OpenClaim := { program := "ytbkjkjcpclaijaa", sum := "f4a62cf27d59bff2bc9317ba77c2121947464af117087f44494f8aeb3a15e6d9", func := "mutoscope/mutoscopelaw05.FixWhole", spec := "fixWhole", apart := false, narrowed := true }
def FixWholeUptoSaid : Prop := fixWholeUptoRow.holds Try.pinned (OpenSpec.upto fixWholeSpec)

/-- 'mutoscopelaw06.RectCuts', WHERE WHAT IT READS IS OF BULK AT MOST 1048576: true; the input reads as it did. -/
def rectCutsUptoRow : OpenClaim := { program := "ytbkjkjcpclaijaa", sum := "f4a62cf27d59bff2bc9317ba77c2121947464af117087f44494f8aeb3a15e6d9", func := "mutoscope/mutoscopelaw06.RectCuts", spec := "rectCuts", apart := false, narrowed := true }
def RectCutsUptoSaid : Prop := rectCutsUptoRow.holds Try.pinned (OpenSpec.upto rectCutsSpec)

/-- 'mutoscopelaw06.RectForms', WHERE WHAT IT READS IS OF BULK AT MOST 1048576: true; the input reads as it did. -/
def rectFormsUptoRow : OpenClaim := { program := "ytbkjkjcpclaijaa", sum := "f4a62cf27d59bff2bc9317ba77c2121947464af117087f44494f8aeb3a15e6d9", func := "mutoscope/mutoscopelaw06.RectForms", spec := "rectForms", apart := false, narrowed := true }
def RectFormsUptoSaid : Prop := rectFormsUptoRow.holds Try.pinned (OpenSpec.upto rectFormsSpec)

/-- 'mutoscopelaw06.RectGrows', WHERE WHAT IT READS IS OF BULK AT MOST 1048576: true; the input reads as it did. -/
def rectGrowsUptoRow : OpenClaim := { program := "ytbkjkjcpclaijaa", sum := "f4a62cf27d59bff2bc9317ba77c2121947464af117087f44494f8aeb3a15e6d9", func := "mutoscope/mutoscopelaw06.RectGrows", spec := "rectGrows", apart := false, narrowed := true }
def RectGrowsUptoSaid : Prop := rectGrowsUptoRow.holds Try.pinned (OpenSpec.upto rectGrowsSpec)

/-- 'mutoscopelaw06.RectTogether', WHERE WHAT IT READS IS OF BULK AT MOST 1048576: true; the input reads as it did. -/
def rectTogetherUptoRow : OpenClaim := { program := "ytbkjkjcpclaijaa", sum := "f4a62cf27d59bff2bc9317ba77c2121947464af117087f44494f8aeb3a15e6d9", func := "mutoscope/mutoscopelaw06.RectTogether", spec := "rectTogether", apart := false, narrowed := true }
def RectTogetherUptoSaid : Prop := rectTogetherUptoRow.holds Try.pinned (OpenSpec.upto rectTogetherSpec)

end Rows
end Go.Proofs.Ytbkjkjcpclaijaa
