/-
  No cell of these rows narrows 'for every input' (looked for: loops, veiled, ifaces, maps, wideKeys, modest, calm, conditions, laid).
  DERIVED. THE GIVEN ROWS OF THIS SEAT. 8 by the template 'for every input the law returns true; each argument reads behind the call as it read before'; 0 by the template 'total and deterministic' (their statements: YtgmljklgdokddaaTotals.lean).
  GIVEN WITH THE SEED: the statements are not yours to turn. If you find one false, say at which input.
  Laid BY PROGRAM, IN A SANDBOX (cutbox-rows.mjs): the forced cells as the released guide's own fill.sh prints them over the translation 176c81aec3530a21… (all of the seat's roots in one cut). By AI agents, Wed Nov 11 2026. No macro, syntax, notation, axiom, sorry.
-/
import Derived.Test.YtgmljklgdokddaaChecked
import GoSem.Claim
import GoSem.ClaimJoined
import GoSem.ClaimMapViews
import Derived.JoinedTies
import Derived.KernelRfl
namespace Go.Proofs.Ytgmljklgdokddaa
/- THE CELL 'sum', in the pinned program and in every row, IS THE sha256 OF THE DUMP (.gsa) THAT YtgmljklgdokddaaProg.lean LOADS. Nothing in Lean hashes anything: it is a label: what it is worth is what the hold of that sum in a sandbox is worth. -/
noncomputable def Try.pinned : Pinned := { name := "ytgmljklgdokddaa", sum := "176c81aec3530a21d3d838c995e3b6ffddd0a271248be7669f9eb9a377f67df3", checked := Try.checked }
namespace Rows
def none {H : Type} : Left H := { results := [], args := [] }

/-- 'corporalaw03.ChecksumSums': WHATEVER THE INPUT: true; the input reads as it did. -/
def checksumSumsSpec : ChangeSpec := { name := "checksumSums", fn := fun _ => fun
  | [d] => { results := [.lit (.bool true)], args := [d] }
  | _ => none }
def checksumSumsRow : OpenClaim := { program := "ytgmljklgdokddaa", sum := "176c81aec3530a21d3d838c995e3b6ffddd0a271248be7669f9eb9a377f67df3", func := "corpora/corporalaw03.ChecksumSums", spec := "checksumSums", apart := false }
def ChecksumSumsSaid : Prop := checksumSumsRow.holds Try.pinned (OpenSpec.ofChange checksumSumsSpec)

/-- ITS FALSE NEIGHBOUR: 'it returns false'. Refute it at one input. -/
def checksumSumsWrong : ChangeSpec := { name := "checksumSums", fn := fun _ => fun
  | [d] => { results := [.lit (.bool false)], args := [d] }
  | _ => none }
def ChecksumSumsWrongFalsely : Prop := checksumSumsRow.holds Try.pinned (OpenSpec.ofChange checksumSumsWrong)

/-- 'corporalaw03.ChecksumLinear': WHATEVER THE INPUT: true; the input reads as it did. -/
def checksumLinearSpec : ChangeSpec := { name := "checksumLinear", fn := fun _ => fun
  | [d1, d2, d3] => { results := [.lit (.bool true)], args := [d1, d2, d3] }
  | _ => none }
def checksumLinearRow : OpenClaim := { program := "ytgmljklgdokddaa", sum := "176c81aec3530a21d3d838c995e3b6ffddd0a271248be7669f9eb9a377f67df3", func := "corpora/corporalaw03.ChecksumLinear", spec := "checksumLinear", apart := false }
def ChecksumLinearSaid : Prop := checksumLinearRow.holds Try.pinned (OpenSpec.ofChange checksumLinearSpec)

/-- ITS FALSE NEIGHBOUR: 'it returns false'. Refute it at one input. -/
def checksumLinearWrong : ChangeSpec := { name := "checksumLinear", fn := fun _ => fun
  | [d1, d2, d3] => { results := [.lit (.bool false)], args := [d1, d2, d3] }
  | _ => none }
def ChecksumLinearWrongFalsely : Prop := checksumLinearRow.holds Try.pinned (OpenSpec.ofChange checksumLinearWrong)

/-- 'corporalaw03.ChecksumSeals': WHATEVER THE INPUT: true; the input reads as it did. -/
def checksumSealsSpec : ChangeSpec := { name := "checksumSeals", fn := fun _ => fun
  | [d] => { results := [.lit (.bool true)], args := [d] }
  | _ => none }
def checksumSealsRow : OpenClaim := { program := "ytgmljklgdokddaa", sum := "176c81aec3530a21d3d838c995e3b6ffddd0a271248be7669f9eb9a377f67df3", func := "corpora/corporalaw03.ChecksumSeals", spec := "checksumSeals", apart := false }
def ChecksumSealsSaid : Prop := checksumSealsRow.holds Try.pinned (OpenSpec.ofChange checksumSealsSpec)

/-- ITS FALSE NEIGHBOUR: 'it returns false'. Refute it at one input. -/
def checksumSealsWrong : ChangeSpec := { name := "checksumSeals", fn := fun _ => fun
  | [d] => { results := [.lit (.bool false)], args := [d] }
  | _ => none }
def ChecksumSealsWrongFalsely : Prop := checksumSealsRow.holds Try.pinned (OpenSpec.ofChange checksumSealsWrong)

/-- 'corporalaw03.ChecksumUnseals': WHATEVER THE INPUT: true; the input reads as it did. -/
def checksumUnsealsSpec : ChangeSpec := { name := "checksumUnseals", fn := fun _ => fun
  | [d] => { results := [.lit (.bool true)], args := [d] }
  | _ => none }
def checksumUnsealsRow : OpenClaim := { program := "ytgmljklgdokddaa", sum := "176c81aec3530a21d3d838c995e3b6ffddd0a271248be7669f9eb9a377f67df3", func := "corpora/corporalaw03.ChecksumUnseals", spec := "checksumUnseals", apart := false }
def ChecksumUnsealsSaid : Prop := checksumUnsealsRow.holds Try.pinned (OpenSpec.ofChange checksumUnsealsSpec)

/-- ITS FALSE NEIGHBOUR: 'it returns false'. Refute it at one input. -/
def checksumUnsealsWrong : ChangeSpec := { name := "checksumUnseals", fn := fun _ => fun
  | [d] => { results := [.lit (.bool false)], args := [d] }
  | _ => none }
def ChecksumUnsealsWrongFalsely : Prop := checksumUnsealsRow.holds Try.pinned (OpenSpec.ofChange checksumUnsealsWrong)

/-- 'corporalaw03.ChecksumBursts': WHATEVER THE INPUT: true; the input reads as it did. -/
def checksumBurstsSpec : ChangeSpec := { name := "checksumBursts", fn := fun _ => fun
  | [d1, d2, d3] => { results := [.lit (.bool true)], args := [d1, d2, d3] }
  | _ => none }
def checksumBurstsRow : OpenClaim := { program := "ytgmljklgdokddaa", sum := "176c81aec3530a21d3d838c995e3b6ffddd0a271248be7669f9eb9a377f67df3", func := "corpora/corporalaw03.ChecksumBursts", spec := "checksumBursts", apart := false }
def ChecksumBurstsSaid : Prop := checksumBurstsRow.holds Try.pinned (OpenSpec.ofChange checksumBurstsSpec)

/-- ITS FALSE NEIGHBOUR: 'it returns false'. Refute it at one input. -/
def checksumBurstsWrong : ChangeSpec := { name := "checksumBursts", fn := fun _ => fun
  | [d1, d2, d3] => { results := [.lit (.bool false)], args := [d1, d2, d3] }
  | _ => none }
def ChecksumBurstsWrongFalsely : Prop := checksumBurstsRow.holds Try.pinned (OpenSpec.ofChange checksumBurstsWrong)

/-- 'corporalaw03.ChecksumCombines': WHATEVER THE INPUT: true; the input reads as it did. -/
def checksumCombinesSpec : ChangeSpec := { name := "checksumCombines", fn := fun _ => fun
  | [d1, d2] => { results := [.lit (.bool true)], args := [d1, d2] }
  | _ => none }
def checksumCombinesRow : OpenClaim := { program := "ytgmljklgdokddaa", sum := "176c81aec3530a21d3d838c995e3b6ffddd0a271248be7669f9eb9a377f67df3", func := "corpora/corporalaw03.ChecksumCombines", spec := "checksumCombines", apart := false }
def ChecksumCombinesSaid : Prop := checksumCombinesRow.holds Try.pinned (OpenSpec.ofChange checksumCombinesSpec)

/-- ITS FALSE NEIGHBOUR: 'it returns false'. Refute it at one input. -/
def checksumCombinesWrong : ChangeSpec := { name := "checksumCombines", fn := fun _ => fun
  | [d1, d2] => { results := [.lit (.bool false)], args := [d1, d2] }
  | _ => none }
def ChecksumCombinesWrongFalsely : Prop := checksumCombinesRow.holds Try.pinned (OpenSpec.ofChange checksumCombinesWrong)

/-- 'corporalaw03.ChecksumCombined': WHATEVER THE INPUT: true; the input reads as it did. -/
def checksumCombinedSpec : ChangeSpec := { name := "checksumCombined", fn := fun _ => fun
  | [d1, d2, d3] => { results := [.lit (.bool true)], args := [d1, d2, d3] }
  | _ => none }
def checksumCombinedRow : OpenClaim := { program := "ytgmljklgdokddaa", sum := "176c81aec3530a21d3d838c995e3b6ffddd0a271248be7669f9eb9a377f67df3", func := "corpora/corporalaw03.ChecksumCombined", spec := "checksumCombined", apart := false }
def ChecksumCombinedSaid : Prop := checksumCombinedRow.holds Try.pinned (OpenSpec.ofChange checksumCombinedSpec)

/-- ITS FALSE NEIGHBOUR: 'it returns false'. Refute it at one input. -/
def checksumCombinedWrong : ChangeSpec := { name := "checksumCombined", fn := fun _ => fun
  | [d1, d2, d3] => { results := [.lit (.bool false)], args := [d1, d2, d3] }
  | _ => none }
def ChecksumCombinedWrongFalsely : Prop := checksumCombinedRow.holds Try.pinned (OpenSpec.ofChange checksumCombinedWrong)

/-- 'corporalaw03.ChecksumChains': WHATEVER THE INPUT: true; the input reads as it did. -/
def checksumChainsSpec : ChangeSpec := { name := "checksumChains", fn := fun _ => fun
  | [d] => { results := [.lit (.bool true)], args := [d] }
  | _ => none }
def checksumChainsRow : OpenClaim := { program := "ytgmljklgdokddaa", sum := "176c81aec3530a21d3d838c995e3b6ffddd0a271248be7669f9eb9a377f67df3", func := "corpora/corporalaw03.ChecksumChains", spec := "checksumChains", apart := false }
def ChecksumChainsSaid : Prop := checksumChainsRow.holds Try.pinned (OpenSpec.ofChange checksumChainsSpec)

/-- ITS FALSE NEIGHBOUR: 'it returns false'. Refute it at one input. -/
def checksumChainsWrong : ChangeSpec := { name := "checksumChains", fn := fun _ => fun
  | [d] => { results := [.lit (.bool false)], args := [d] }
  | _ => none }
def ChecksumChainsWrongFalsely : Prop := checksumChainsRow.holds Try.pinned (OpenSpec.ofChange checksumChainsWrong)

/- THE SECOND FORM. 'bulk': how many values and letters a reading holds, each counted each time it is reached (what is shared counts as often as it is met; a slice's spare places count too). A statement '..UptoSaid' is the law's where the arguments, and the package variables that the reading takes, are together of bulk at most 1048576: NARROWER than '..Said'. Prove '..Said' where nothing that the law and all that it calls make is longer than what came in: it says more and counts as full. Else prove '..UptoSaid'. A law counts once. -/
mutual
def uptoBulk {H : Type} : DataW H → Nat
  | .lit (.string bytes) => bytes.length + 1
  | .lit _ => 1
  | .nil => 1
  | .ptr d => uptoBulk d + 1
  | .slice elems spare => uptoBulkAll elems + uptoBulkAll spare + 1
  | .agg parts => uptoBulkAll parts + 1
  | .iface _ d => uptoBulk d + 1
  | .map entries => uptoBulkEntries entries + 1
  | .held _ => 1
def uptoBulkAll {H : Type} : List (DataW H) → Nat
  | [] => 0
  | d :: r => uptoBulk d + uptoBulkAll r
def uptoBulkEntries {H : Type} : List (Lit × DataW H) → Nat
  | [] => 0
  | x :: r => uptoBulkEntry x + uptoBulkEntries r
def uptoBulkEntry {H : Type} : Lit × DataW H → Nat
  | (.string bytes, d) => bytes.length + uptoBulk d + 1
  | (_, d) => uptoBulk d + 1
 end
def uptoSmall : (H : Type) → List (DataW H) → Bool := fun _ ds => decide (uptoBulkAll ds ≤ 1048576)
def OpenSpec.upto (s : _root_.Go.ChangeSpec) : _root_.Go.OpenSpec := { _root_.Go.OpenSpec.ofChange s with cond := some uptoSmall }

/-- 'corporalaw03.ChecksumSums', WHERE WHAT IT READS IS OF BULK AT MOST 1048576: true; the input reads as it did. -/
def checksumSumsUptoRow : OpenClaim := { program := "ytgmljklgdokddaa", sum := "176c81aec3530a21d3d838c995e3b6ffddd0a271248be7669f9eb9a377f67df3", func := "corpora/corporalaw03.ChecksumSums", spec := "checksumSums", apart := false, narrowed := true }
def ChecksumSumsUptoSaid : Prop := checksumSumsUptoRow.holds Try.pinned (OpenSpec.upto checksumSumsSpec)

/-- 'corporalaw03.ChecksumLinear', WHERE WHAT IT READS IS OF BULK AT MOST 1048576: true; the input reads as it did. -/
def checksumLinearUptoRow : OpenClaim := { program := "ytgmljklgdokddaa", sum := "176c81aec3530a21d3d838c995e3b6ffddd0a271248be7669f9eb9a377f67df3", func := "corpora/corporalaw03.ChecksumLinear", spec := "checksumLinear", apart := false, narrowed := true }
def ChecksumLinearUptoSaid : Prop := checksumLinearUptoRow.holds Try.pinned (OpenSpec.upto checksumLinearSpec)

/-- 'corporalaw03.ChecksumSeals', WHERE WHAT IT READS IS OF BULK AT MOST 1048576: true; the input reads as it did. -/
def checksumSealsUptoRow : OpenClaim := { program := "ytgmljklgdokddaa", sum := "176c81aec3530a21d3d838c995e3b6ffddd0a271248be7669f9eb9a377f67df3", func := "corpora/corporalaw03.ChecksumSeals", spec := "checksumSeals", apart := false, narrowed := true }
def ChecksumSealsUptoSaid : Prop := checksumSealsUptoRow.holds Try.pinned (OpenSpec.upto checksumSealsSpec)

/-- 'corporalaw03.ChecksumUnseals', WHERE WHAT IT READS IS OF BULK AT MOST 1048576: true; the input reads as it did. -/
def checksumUnsealsUptoRow : OpenClaim := { program := "ytgmljklgdokddaa", sum := "176c81aec3530a21d3d838c995e3b6ffddd0a271248be7669f9eb9a377f67df3", func := "corpora/corporalaw03.ChecksumUnseals", spec := "checksumUnseals", apart := false, narrowed := true }
def ChecksumUnsealsUptoSaid : Prop := checksumUnsealsUptoRow.holds Try.pinned (OpenSpec.upto checksumUnsealsSpec)

/-- 'corporalaw03.ChecksumBursts', WHERE WHAT IT READS IS OF BULK AT MOST 1048576: true; the input reads as it did. -/
def checksumBurstsUptoRow : OpenClaim := { program := "ytgmljklgdokddaa", sum := "176c81aec3530a21d3d838c995e3b6ffddd0a271248be7669f9eb9a377f67df3", func := "corpora/corporalaw03.ChecksumBursts", spec := "checksumBursts", apart := false, narrowed := true }
def ChecksumBurstsUptoSaid : Prop := checksumBurstsUptoRow.holds Try.pinned (OpenSpec.upto checksumBurstsSpec)

/-- 'corporalaw03.ChecksumCombines', WHERE WHAT IT READS IS OF BULK AT MOST 1048576: true; the input reads as it did. -/
def checksumCombinesUptoRow : OpenClaim := { program := "ytgmljklgdokddaa", sum := "176c81aec3530a21d3d838c995e3b6ffddd0a271248be7669f9eb9a377f67df3", func := "corpora/corporalaw03.ChecksumCombines", spec := "checksumCombines", apart := false, narrowed := true }
def ChecksumCombinesUptoSaid : Prop := checksumCombinesUptoRow.holds Try.pinned (OpenSpec.upto checksumCombinesSpec)

/-- 'corporalaw03.ChecksumCombined', WHERE WHAT IT READS IS OF BULK AT MOST 1048576: true; the input reads as it did. -/
def checksumCombinedUptoRow : OpenClaim := { program := "ytgmljklgdokddaa", sum := "176c81aec3530a21d3d838c995e3b6ffddd0a271248be7669f9eb9a377f67df3", func := "corpora/corporalaw03.ChecksumCombined", spec := "checksumCombined", apart := false, narrowed := true }
def ChecksumCombinedUptoSaid : Prop := checksumCombinedUptoRow.holds Try.pinned (OpenSpec.upto checksumCombinedSpec)

/-- 'corporalaw03.ChecksumChains', WHERE WHAT IT READS IS OF BULK AT MOST 1048576: true; the input reads as it did. -/
def checksumChainsUptoRow : OpenClaim := { program := "ytgmljklgdokddaa", sum := "176c81aec3530a21d3d838c995e3b6ffddd0a271248be7669f9eb9a377f67df3", func := "corpora/corporalaw03.ChecksumChains", spec := "checksumChains", apart := false, narrowed := true }
def ChecksumChainsUptoSaid : Prop := checksumChainsUptoRow.holds Try.pinned (OpenSpec.upto checksumChainsSpec)

end Rows
end Go.Proofs.Ytgmljklgdokddaa
