/-
  No cell of these rows narrows 'for every input' (looked for: loops, veiled, ifaces, maps, wideKeys, modest, calm, conditions, laid).
  DERIVED. THE GIVEN ROWS OF THIS SEAT. 12 by the template 'for every input the law returns true; each argument reads behind the call as it read before'; 0 by the template 'total and deterministic' (their statements: YtcpakbppnkknlaaTotals.lean).
  GIVEN WITH THE SEED: the statements are not yours to turn. If you find one false, say at which input.
  Laid BY PROGRAM, IN A SANDBOX (cutbox-rows.mjs): the forced cells as the released guide's own fill.sh prints them over the translation 22f8340b2452dced… (all of the seat's roots in one cut). By AI agents, Wed Nov 11 2026. No macro, syntax, notation, axiom, sorry.
-/
import Derived.Test.YtcpakbppnkknlaaChecked
import GoSem.Claim
import GoSem.ClaimJoined
import GoSem.ClaimMapViews
import Derived.JoinedTies
import Derived.KernelRfl
namespace Go.Proofs.Ytcpakbppnkknlaa
/- THE CELL 'sum', in the pinned program and in every row, IS THE sha256 OF THE DUMP (.gsa) THAT YtcpakbppnkknlaaProg.lean LOADS. Nothing in Lean hashes anything: it is a label: what it is worth is what the hold of that sum in a sandbox is worth. -/
noncomputable def Try.pinned : Pinned := { name := "ytcpakbppnkknlaa", sum := "22f8340b2452dceda21588b8e6dfed2d7b58c83a3798ea71d89dde9c131a29ec", checked := Try.checked }
namespace Rows
def none {H : Type} : Left H := { results := [], args := [] }

/-- 'mutoscopelaw04.RecBytes': WHATEVER THE INPUT: true; the input reads as it did. -/
def recBytesSpec : ChangeSpec := { name := "recBytes", fn := fun _ => fun
  | [d] => { results := [.lit (.bool true)], args := [d] }
  | _ => none }
def recBytesRow : OpenClaim := { program := "ytcpakbppnkknlaa", sum := "22f8340b2452dceda21588b8e6dfed2d7b58c83a3798ea71d89dde9c131a29ec", func := "mutoscope/mutoscopelaw04.RecBytes", spec := "recBytes", apart := false }
def RecBytesSaid : Prop := recBytesRow.holds Try.pinned (OpenSpec.ofChange recBytesSpec)

/-- ITS FALSE NEIGHBOUR: 'it returns false'. Refute it at one input. -/
def recBytesWrong : ChangeSpec := { name := "recBytes", fn := fun _ => fun
  | [d] => { results := [.lit (.bool false)], args := [d] }
  | _ => none }
def RecBytesWrongFalsely : Prop := recBytesRow.holds Try.pinned (OpenSpec.ofChange recBytesWrong)

/-- 'mutoscopelaw04.RecNext': WHATEVER THE INPUT: true; the input reads as it did. -/
def recNextSpec : ChangeSpec := { name := "recNext", fn := fun _ => fun
  | [d] => { results := [.lit (.bool true)], args := [d] }
  | _ => none }
def recNextRow : OpenClaim := { program := "ytcpakbppnkknlaa", sum := "22f8340b2452dceda21588b8e6dfed2d7b58c83a3798ea71d89dde9c131a29ec", func := "mutoscope/mutoscopelaw04.RecNext", spec := "recNext", apart := false }
def RecNextSaid : Prop := recNextRow.holds Try.pinned (OpenSpec.ofChange recNextSpec)

/-- ITS FALSE NEIGHBOUR: 'it returns false'. Refute it at one input. -/
def recNextWrong : ChangeSpec := { name := "recNext", fn := fun _ => fun
  | [d] => { results := [.lit (.bool false)], args := [d] }
  | _ => none }
def RecNextWrongFalsely : Prop := recNextRow.holds Try.pinned (OpenSpec.ofChange recNextWrong)

/-- 'mutoscopelaw04.RecAll': WHATEVER THE INPUT: true; the input reads as it did. -/
def recAllSpec : ChangeSpec := { name := "recAll", fn := fun _ => fun
  | [d] => { results := [.lit (.bool true)], args := [d] }
  | _ => none }
def recAllRow : OpenClaim := { program := "ytcpakbppnkknlaa", sum := "22f8340b2452dceda21588b8e6dfed2d7b58c83a3798ea71d89dde9c131a29ec", func := "mutoscope/mutoscopelaw04.RecAll", spec := "recAll", apart := false }
def RecAllSaid : Prop := recAllRow.holds Try.pinned (OpenSpec.ofChange recAllSpec)

/-- ITS FALSE NEIGHBOUR: 'it returns false'. Refute it at one input. -/
def recAllWrong : ChangeSpec := { name := "recAll", fn := fun _ => fun
  | [d] => { results := [.lit (.bool false)], args := [d] }
  | _ => none }
def RecAllWrongFalsely : Prop := recAllRow.holds Try.pinned (OpenSpec.ofChange recAllWrong)

/-- 'mutoscopelaw04.RecTorn': WHATEVER THE INPUT: true; the input reads as it did. -/
def recTornSpec : ChangeSpec := { name := "recTorn", fn := fun _ => fun
  | [d] => { results := [.lit (.bool true)], args := [d] }
  | _ => none }
def recTornRow : OpenClaim := { program := "ytcpakbppnkknlaa", sum := "22f8340b2452dceda21588b8e6dfed2d7b58c83a3798ea71d89dde9c131a29ec", func := "mutoscope/mutoscopelaw04.RecTorn", spec := "recTorn", apart := false }
def RecTornSaid : Prop := recTornRow.holds Try.pinned (OpenSpec.ofChange recTornSpec)

/-- ITS FALSE NEIGHBOUR: 'it returns false'. Refute it at one input. -/
def recTornWrong : ChangeSpec := { name := "recTorn", fn := fun _ => fun
  | [d] => { results := [.lit (.bool false)], args := [d] }
  | _ => none }
def RecTornWrongFalsely : Prop := recTornRow.holds Try.pinned (OpenSpec.ofChange recTornWrong)

/-- 'mutoscopelaw04.RecSizes': WHATEVER THE INPUT: true; the input reads as it did. -/
def recSizesSpec : ChangeSpec := { name := "recSizes", fn := fun _ => fun
  | [d] => { results := [.lit (.bool true)], args := [d] }
  | _ => none }
def recSizesRow : OpenClaim := { program := "ytcpakbppnkknlaa", sum := "22f8340b2452dceda21588b8e6dfed2d7b58c83a3798ea71d89dde9c131a29ec", func := "mutoscope/mutoscopelaw04.RecSizes", spec := "recSizes", apart := false }
def RecSizesSaid : Prop := recSizesRow.holds Try.pinned (OpenSpec.ofChange recSizesSpec)

/-- ITS FALSE NEIGHBOUR: 'it returns false'. Refute it at one input. -/
def recSizesWrong : ChangeSpec := { name := "recSizes", fn := fun _ => fun
  | [d] => { results := [.lit (.bool false)], args := [d] }
  | _ => none }
def RecSizesWrongFalsely : Prop := recSizesRow.holds Try.pinned (OpenSpec.ofChange recSizesWrong)

/-- 'mutoscopelaw08.AffineTakes': WHATEVER THE INPUT: true; the input reads as it did. -/
def affineTakesSpec : ChangeSpec := { name := "affineTakes", fn := fun _ => fun
  | [d1, d2] => { results := [.lit (.bool true)], args := [d1, d2] }
  | _ => none }
def affineTakesRow : OpenClaim := { program := "ytcpakbppnkknlaa", sum := "22f8340b2452dceda21588b8e6dfed2d7b58c83a3798ea71d89dde9c131a29ec", func := "mutoscope/mutoscopelaw08.AffineTakes", spec := "affineTakes", unfollowed := true, recurses := true, apart := false }
def AffineTakesSaid : Prop := affineTakesRow.holds Try.pinned (OpenSpec.ofChange affineTakesSpec)

/-- ITS FALSE NEIGHBOUR: 'it returns false'. Refute it at one input. -/
def affineTakesWrong : ChangeSpec := { name := "affineTakes", fn := fun _ => fun
  | [d1, d2] => { results := [.lit (.bool false)], args := [d1, d2] }
  | _ => none }
def AffineTakesWrongFalsely : Prop := affineTakesRow.holds Try.pinned (OpenSpec.ofChange affineTakesWrong)

/-- 'mutoscopelaw08.AffineThens': WHATEVER THE INPUT: true; the input reads as it did. -/
def affineThensSpec : ChangeSpec := { name := "affineThens", fn := fun _ => fun
  | [d1, d2] => { results := [.lit (.bool true)], args := [d1, d2] }
  | _ => none }
def affineThensRow : OpenClaim := { program := "ytcpakbppnkknlaa", sum := "22f8340b2452dceda21588b8e6dfed2d7b58c83a3798ea71d89dde9c131a29ec", func := "mutoscope/mutoscopelaw08.AffineThens", spec := "affineThens", unfollowed := true, recurses := true, apart := false }
def AffineThensSaid : Prop := affineThensRow.holds Try.pinned (OpenSpec.ofChange affineThensSpec)

/-- ITS FALSE NEIGHBOUR: 'it returns false'. Refute it at one input. -/
def affineThensWrong : ChangeSpec := { name := "affineThens", fn := fun _ => fun
  | [d1, d2] => { results := [.lit (.bool false)], args := [d1, d2] }
  | _ => none }
def AffineThensWrongFalsely : Prop := affineThensRow.holds Try.pinned (OpenSpec.ofChange affineThensWrong)

/-- 'mutoscopelaw08.AffineBacks': WHATEVER THE INPUT: true; the input reads as it did. -/
def affineBacksSpec : ChangeSpec := { name := "affineBacks", fn := fun _ => fun
  | [d1, d2] => { results := [.lit (.bool true)], args := [d1, d2] }
  | _ => none }
def affineBacksRow : OpenClaim := { program := "ytcpakbppnkknlaa", sum := "22f8340b2452dceda21588b8e6dfed2d7b58c83a3798ea71d89dde9c131a29ec", func := "mutoscope/mutoscopelaw08.AffineBacks", spec := "affineBacks", unfollowed := true, recurses := true, apart := false }
def AffineBacksSaid : Prop := affineBacksRow.holds Try.pinned (OpenSpec.ofChange affineBacksSpec)

/-- ITS FALSE NEIGHBOUR: 'it returns false'. Refute it at one input. -/
def affineBacksWrong : ChangeSpec := { name := "affineBacks", fn := fun _ => fun
  | [d1, d2] => { results := [.lit (.bool false)], args := [d1, d2] }
  | _ => none }
def AffineBacksWrongFalsely : Prop := affineBacksRow.holds Try.pinned (OpenSpec.ofChange affineBacksWrong)

/-- 'mutoscopelaw08.AffineKinds': WHATEVER THE INPUT: true; the input reads as it did. -/
def affineKindsSpec : ChangeSpec := { name := "affineKinds", fn := fun _ => fun
  | [d1, d2, d3] => { results := [.lit (.bool true)], args := [d1, d2, d3] }
  | _ => none }
def affineKindsRow : OpenClaim := { program := "ytcpakbppnkknlaa", sum := "22f8340b2452dceda21588b8e6dfed2d7b58c83a3798ea71d89dde9c131a29ec", func := "mutoscope/mutoscopelaw08.AffineKinds", spec := "affineKinds", unfollowed := true, recurses := true, apart := false }
def AffineKindsSaid : Prop := affineKindsRow.holds Try.pinned (OpenSpec.ofChange affineKindsSpec)

/-- ITS FALSE NEIGHBOUR: 'it returns false'. Refute it at one input. -/
def affineKindsWrong : ChangeSpec := { name := "affineKinds", fn := fun _ => fun
  | [d1, d2, d3] => { results := [.lit (.bool false)], args := [d1, d2, d3] }
  | _ => none }
def AffineKindsWrongFalsely : Prop := affineKindsRow.holds Try.pinned (OpenSpec.ofChange affineKindsWrong)

/-- 'mutoscopelaw11.NodeChecks': WHATEVER THE INPUT: true; the input reads as it did. -/
def nodeChecksSpec : ChangeSpec := { name := "nodeChecks", fn := fun _ => fun
  | [d] => { results := [.lit (.bool true)], args := [d] }
  | _ => none }
def nodeChecksRow : OpenClaim := { program := "ytcpakbppnkknlaa", sum := "22f8340b2452dceda21588b8e6dfed2d7b58c83a3798ea71d89dde9c131a29ec", func := "mutoscope/mutoscopelaw11.NodeChecks", spec := "nodeChecks", unfollowed := true, recurses := true, apart := false }
def NodeChecksSaid : Prop := nodeChecksRow.holds Try.pinned (OpenSpec.ofChange nodeChecksSpec)

/-- ITS FALSE NEIGHBOUR: 'it returns false'. Refute it at one input. -/
def nodeChecksWrong : ChangeSpec := { name := "nodeChecks", fn := fun _ => fun
  | [d] => { results := [.lit (.bool false)], args := [d] }
  | _ => none }
def NodeChecksWrongFalsely : Prop := nodeChecksRow.holds Try.pinned (OpenSpec.ofChange nodeChecksWrong)

/-- 'mutoscopelaw11.NodeLooks': WHATEVER THE INPUT: true; the input reads as it did. -/
def nodeLooksSpec : ChangeSpec := { name := "nodeLooks", fn := fun _ => fun
  | [d1, d2, d3] => { results := [.lit (.bool true)], args := [d1, d2, d3] }
  | _ => none }
def nodeLooksRow : OpenClaim := { program := "ytcpakbppnkknlaa", sum := "22f8340b2452dceda21588b8e6dfed2d7b58c83a3798ea71d89dde9c131a29ec", func := "mutoscope/mutoscopelaw11.NodeLooks", spec := "nodeLooks", unfollowed := true, recurses := true, apart := false }
def NodeLooksSaid : Prop := nodeLooksRow.holds Try.pinned (OpenSpec.ofChange nodeLooksSpec)

/-- ITS FALSE NEIGHBOUR: 'it returns false'. Refute it at one input. -/
def nodeLooksWrong : ChangeSpec := { name := "nodeLooks", fn := fun _ => fun
  | [d1, d2, d3] => { results := [.lit (.bool false)], args := [d1, d2, d3] }
  | _ => none }
def NodeLooksWrongFalsely : Prop := nodeLooksRow.holds Try.pinned (OpenSpec.ofChange nodeLooksWrong)

/-- 'mutoscopelaw11.NodeClips': WHATEVER THE INPUT: true; the input reads as it did. -/
def nodeClipsSpec : ChangeSpec := { name := "nodeClips", fn := fun _ => fun
  | [d1, d2] => { results := [.lit (.bool true)], args := [d1, d2] }
  | _ => none }
def nodeClipsRow : OpenClaim := { program := "ytcpakbppnkknlaa", sum := "22f8340b2452dceda21588b8e6dfed2d7b58c83a3798ea71d89dde9c131a29ec", func := "mutoscope/mutoscopelaw11.NodeClips", spec := "nodeClips", unfollowed := true, recurses := true, apart := false }
def NodeClipsSaid : Prop := nodeClipsRow.holds Try.pinned (OpenSpec.ofChange nodeClipsSpec)

/-- ITS FALSE NEIGHBOUR: 'it returns false'. Refute it at one input. -/
def nodeClipsWrong : ChangeSpec := { name := "nodeClips", fn := fun _ => fun
  | [d1, d2] => { results := [.lit (.bool false)], args := [d1, d2] }
  | _ => none }
def NodeClipsWrongFalsely : Prop := nodeClipsRow.holds Try.pinned (OpenSpec.ofChange nodeClipsWrong)

/- THE SECOND FORM. 'bulk': how many values and letters a reading holds, each counted each time it is reached (what is shared counts as often as it is met; a slice's spare places count too). A statement '..UptoSaid' is the law's where the arguments, and the package variables that the reading takes, are together of bulk at most 1048576: NARROWER than '..Said'. Prove '..Said' where nothing that the law and all that it calls make is longer than what came in: it says more and counts as full. Else prove '..UptoSaid'. A law counts once. -/
mutual
def uptoBulk {H : Type} : DataW H → Nat
  | .lit (.string bytes) => bytes.length + 1
  | .lit _ => 1
  | .nil => 1
  | .ptr d => uptoBulk d + 1
  | .slice elems spare => uptoBulkAll elems + uptoBulkAll spare + 1
  | .agg parts => uptoBulkAll parts + 1
  | .iface _ d => uptoBulk d + 1
  | .map entries => uptoBulkEntries entries + 1
  | .held _ => 1
def uptoBulkAll {H : Type} : List (DataW H) → Nat
  | [] => 0
  | d :: r => uptoBulk d + uptoBulkAll r
def uptoBulkEntries {H : Type} : List (Lit × DataW H) → Nat
  | [] => 0
  | x :: r => uptoBulkEntry x + uptoBulkEntries r
def uptoBulkEntry {H : Type} : Lit × DataW H → Nat
  | (.string bytes, d) => bytes.length + uptoBulk d + 1
  | (_, d) => uptoBulk d + 1
 end
def uptoSmall : (H : Type) → List (DataW H) → Bool := fun _ ds => decide (uptoBulkAll ds ≤ 1048576)
def OpenSpec.upto (s : _root_.Go.ChangeSpec) : _root_.Go.OpenSpec := { _root_.Go.OpenSpec.ofChange s with cond := some uptoSmall }

/-- 'mutoscopelaw04.RecBytes', WHERE WHAT IT READS IS OF BULK AT MOST 1048576: true; the input reads as it did. -/
def recBytesUptoRow : OpenClaim := { program := "ytcpakbppnkknlaa", sum := "22f8340b2452dceda21588b8e6dfed2d7b58c83a3798ea71d89dde9c131a29ec", func := "mutoscope/mutoscopelaw04.RecBytes", spec := "recBytes", apart := false, narrowed := true }
def RecBytesUptoSaid : Prop := recBytesUptoRow.holds Try.pinned (OpenSpec.upto recBytesSpec)

/-- 'mutoscopelaw04.RecNext', WHERE WHAT IT READS IS OF BULK AT MOST 1048576: true; the input reads as it did. -/
def recNextUptoRow : OpenClaim := { program := "ytcpakbppnkknlaa", sum := "22f8340b2452dceda21588b8e6dfed2d7b58c83a3798ea71d89dde9c131a29ec", func := "mutoscope/mutoscopelaw04.RecNext", spec := "recNext", apart := false, narrowed := true }
def RecNextUptoSaid : Prop := recNextUptoRow.holds Try.pinned (OpenSpec.upto recNextSpec)

/-- 'mutoscopelaw04.RecAll', WHERE WHAT IT READS IS OF BULK AT MOST 1048576: true; the input reads as it did. -/
def recAllUptoRow : OpenClaim := { program := "ytcpakbppnkknlaa", sum := "22f8340b2452dceda21588b8e6dfed2d7b58c83a3798ea71d89dde9c131a29ec", func := "mutoscope/mutoscopelaw04.RecAll", spec := "recAll", apart := false, narrowed := true }
def RecAllUptoSaid : Prop := recAllUptoRow.holds Try.pinned (OpenSpec.upto recAllSpec)

/-- 'mutoscopelaw04.RecTorn', WHERE WHAT IT READS IS OF BULK AT MOST 1048576: true; the input reads as it did. -/
def recTornUptoRow : OpenClaim := { program := "ytcpakbppnkknlaa", sum := "22f8340b2452dceda21588b8e6dfed2d7b58c83a3798ea71d89dde9c131a29ec", func := "mutoscope/mutoscopelaw04.RecTorn", spec := "recTorn", apart := false, narrowed := true }
def RecTornUptoSaid : Prop := recTornUptoRow.holds Try.pinned (OpenSpec.upto recTornSpec)

/-- 'mutoscopelaw04.RecSizes', WHERE WHAT IT READS IS OF BULK AT MOST 1048576: true; the input reads as it did. -/
def recSizesUptoRow : OpenClaim := { program := "ytcpakbppnkknlaa", sum := "22f8340b2452dceda21588b8e6dfed2d7b58c83a3798ea71d89dde9c131a29ec", func := "mutoscope/mutoscopelaw04.RecSizes", spec := "recSizes", apart := false, narrowed := true }
def RecSizesUptoSaid : Prop := recSizesUptoRow.holds Try.pinned (OpenSpec.upto recSizesSpec)

/-- 'mutoscopelaw08.AffineTakes', WHERE WHAT IT READS IS OF BULK AT MOST 1048576: true; the input reads as it did. -/
def affineTakesUptoRow : OpenClaim := { program := "ytcpakbppnkknlaa", sum := "22f8340b2452dceda21588b8e6dfed2d7b58c83a3798ea71d89dde9c131a29ec", func := "mutoscope/mutoscopelaw08.AffineTakes", spec := "affineTakes", unfollowed := true, recurses := true, apart := false, narrowed := true }
def AffineTakesUptoSaid : Prop := affineTakesUptoRow.holds Try.pinned (OpenSpec.upto affineTakesSpec)

/-- 'mutoscopelaw08.AffineThens', WHERE WHAT IT READS IS OF BULK AT MOST 1048576: true; the input reads as it did. -/
def affineThensUptoRow : OpenClaim := { program := "ytcpakbppnkknlaa", sum := "22f8340b2452dceda21588b8e6dfed2d7b58c83a3798ea71d89dde9c131a29ec", func := "mutoscope/mutoscopelaw08.AffineThens", spec := "affineThens", unfollowed := true, recurses := true, apart := false, narrowed := true }
def AffineThensUptoSaid : Prop := affineThensUptoRow.holds Try.pinned (OpenSpec.upto affineThensSpec)

/-- 'mutoscopelaw08.AffineBacks', WHERE WHAT IT READS IS OF BULK AT MOST 1048576: true; the input reads as it did. -/
def affineBacksUptoRow : OpenClaim := { program := "ytcpakbppnkknlaa", sum := "22f8340b2452dceda21588b8e6dfed2d7b58c83a3798ea71d89dde9c131a29ec", func := "mutoscope/mutoscopelaw08.AffineBacks", spec := "affineBacks", unfollowed := true, recurses := true, apart := false, narrowed := true }
def AffineBacksUptoSaid : Prop := affineBacksUptoRow.holds Try.pinned (OpenSpec.upto affineBacksSpec)

/-- 'mutoscopelaw08.AffineKinds', WHERE WHAT IT READS IS OF BULK AT MOST 1048576: true; the input reads as it did. -/
def affineKindsUptoRow : OpenClaim := { program := "ytcpakbppnkknlaa", sum := "22f8340b2452dceda21588b8e6dfed2d7b58c83a3798ea71d89dde9c131a29ec", func := "mutoscope/mutoscopelaw08.AffineKinds", spec := "affineKinds", unfollowed := true, recurses := true, apart := false, narrowed := true }
def AffineKindsUptoSaid : Prop := affineKindsUptoRow.holds Try.pinned (OpenSpec.upto affineKindsSpec)

/-- 'mutoscopelaw11.NodeChecks', WHERE WHAT IT READS IS OF BULK AT MOST 1048576: true; the input reads as it did. -/
def nodeChecksUptoRow : OpenClaim := { program := "ytcpakbppnkknlaa", sum := "22f8340b2452dceda21588b8e6dfed2d7b58c83a3798ea71d89dde9c131a29ec", func := "mutoscope/mutoscopelaw11.NodeChecks", spec := "nodeChecks", unfollowed := true, recurses := true, apart := false, narrowed := true }
def NodeChecksUptoSaid : Prop := nodeChecksUptoRow.holds Try.pinned (OpenSpec.upto nodeChecksSpec)

/-- 'mutoscopelaw11.NodeLooks', WHERE WHAT IT READS IS OF BULK AT MOST 1048576: true; the input reads as it did. -/
def nodeLooksUptoRow : OpenClaim := { program := "ytcpakbppnkknlaa", sum := "22f8340b2452dceda21588b8e6dfed2d7b58c83a3798ea71d89dde9c131a29ec", func := "mutoscope/mutoscopelaw11.NodeLooks", spec := "nodeLooks", unfollowed := true, recurses := true, apart := false, narrowed := true }
def NodeLooksUptoSaid : Prop := nodeLooksUptoRow.holds Try.pinned (OpenSpec.upto nodeLooksSpec)

/-- 'mutoscopelaw11.NodeClips', WHERE WHAT IT READS IS OF BULK AT MOST 1048576: true; the input reads as it did. -/
def nodeClipsUptoRow : OpenClaim := { program := "ytcpakbppnkknlaa", sum := "22f8340b2452dceda21588b8e6dfed2d7b58c83a3798ea71d89dde9c131a29ec", func := "mutoscope/mutoscopelaw11.NodeClips", spec := "nodeClips", unfollowed := true, recurses := true, apart := false, narrowed := true }
def NodeClipsUptoSaid : Prop := nodeClipsUptoRow.holds Try.pinned (OpenSpec.upto nodeClipsSpec)

end Rows
end Go.Proofs.Ytcpakbppnkknlaa
