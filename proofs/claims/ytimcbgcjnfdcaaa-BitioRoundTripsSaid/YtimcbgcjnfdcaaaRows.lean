/-
  No cell of these rows narrows 'for every input' (looked for: loops, veiled, ifaces, maps, wideKeys, modest, calm, conditions, laid).
  DERIVED. THE GIVEN ROWS OF THIS SEAT. 10 by the template 'for every input the law returns true; each argument reads behind the call as it read before'; 0 by the template 'total and deterministic' (their statements: YtimcbgcjnfdcaaaTotals.lean).
  GIVEN WITH THE SEED: the statements are not yours to turn. If you find one false, say at which input.
  Laid BY PROGRAM, IN A SANDBOX (cutbox-rows.mjs): the forced cells as the released guide's own fill.sh prints them over the translation d3793dfefcf88543… (all of the seat's roots in one cut). By AI agents, Wed Nov 11 2026. No macro, syntax, notation, axiom, sorry.
-/
import Derived.Test.YtimcbgcjnfdcaaaChecked
import GoSem.Claim
import GoSem.ClaimJoined
import GoSem.ClaimMapViews
import Derived.JoinedTies
import Derived.KernelRfl
namespace Go.Proofs.Ytimcbgcjnfdcaaa
/- THE CELL 'sum', in the pinned program and in every row, IS THE sha256 OF THE DUMP (.gsa) THAT YtimcbgcjnfdcaaaProg.lean LOADS. Nothing in Lean hashes anything: it is a label: what it is worth is what the hold of that sum in a sandbox is worth. -/
noncomputable def Try.pinned : Pinned := { name := "ytimcbgcjnfdcaaa", sum := "d3793dfefcf885432a98fcd776ee11f80f34ae7ca186e1d2f98b0aec47ac8d31", checked := Try.checked }
namespace Rows
def none {H : Type} : Left H := { results := [], args := [] }

/-- 'corporalaw02.BitioPuts': WHATEVER THE INPUT: true; the input reads as it did. -/
def bitioPutsSpec : ChangeSpec := { name := "bitioPuts", fn := fun _ => fun
  | [d1, d2] => { results := [.lit (.bool true)], args := [d1, d2] }
  | _ => none }
def bitioPutsRow : OpenClaim := { program := "ytimcbgcjnfdcaaa", sum := "d3793dfefcf885432a98fcd776ee11f80f34ae7ca186e1d2f98b0aec47ac8d31", func := "corpora/corporalaw02.BitioPuts", spec := "bitioPuts", apart := false }
def BitioPutsSaid : Prop := bitioPutsRow.holds Try.pinned (OpenSpec.ofChange bitioPutsSpec)

/-- ITS FALSE NEIGHBOUR: 'it returns false'. Refute it at one input. -/
def bitioPutsWrong : ChangeSpec := { name := "bitioPuts", fn := fun _ => fun
  | [d1, d2] => { results := [.lit (.bool false)], args := [d1, d2] }
  | _ => none }
def BitioPutsWrongFalsely : Prop := bitioPutsRow.holds Try.pinned (OpenSpec.ofChange bitioPutsWrong)

/-- 'corporalaw02.BitioGrows': WHATEVER THE INPUT: true; the input reads as it did. -/
def bitioGrowsSpec : ChangeSpec := { name := "bitioGrows", fn := fun _ => fun
  | [d1, d2] => { results := [.lit (.bool true)], args := [d1, d2] }
  | _ => none }
def bitioGrowsRow : OpenClaim := { program := "ytimcbgcjnfdcaaa", sum := "d3793dfefcf885432a98fcd776ee11f80f34ae7ca186e1d2f98b0aec47ac8d31", func := "corpora/corporalaw02.BitioGrows", spec := "bitioGrows", apart := false }
def BitioGrowsSaid : Prop := bitioGrowsRow.holds Try.pinned (OpenSpec.ofChange bitioGrowsSpec)

/-- ITS FALSE NEIGHBOUR: 'it returns false'. Refute it at one input. -/
def bitioGrowsWrong : ChangeSpec := { name := "bitioGrows", fn := fun _ => fun
  | [d1, d2] => { results := [.lit (.bool false)], args := [d1, d2] }
  | _ => none }
def BitioGrowsWrongFalsely : Prop := bitioGrowsRow.holds Try.pinned (OpenSpec.ofChange bitioGrowsWrong)

/-- 'corporalaw02.BitioSizes': WHATEVER THE INPUT: true; the input reads as it did. -/
def bitioSizesSpec : ChangeSpec := { name := "bitioSizes", fn := fun _ => fun
  | [d] => { results := [.lit (.bool true)], args := [d] }
  | _ => none }
def bitioSizesRow : OpenClaim := { program := "ytimcbgcjnfdcaaa", sum := "d3793dfefcf885432a98fcd776ee11f80f34ae7ca186e1d2f98b0aec47ac8d31", func := "corpora/corporalaw02.BitioSizes", spec := "bitioSizes", apart := false }
def BitioSizesSaid : Prop := bitioSizesRow.holds Try.pinned (OpenSpec.ofChange bitioSizesSpec)

/-- ITS FALSE NEIGHBOUR: 'it returns false'. Refute it at one input. -/
def bitioSizesWrong : ChangeSpec := { name := "bitioSizes", fn := fun _ => fun
  | [d] => { results := [.lit (.bool false)], args := [d] }
  | _ => none }
def BitioSizesWrongFalsely : Prop := bitioSizesRow.holds Try.pinned (OpenSpec.ofChange bitioSizesWrong)

/-- 'corporalaw02.BitioTakes': WHATEVER THE INPUT: true; the input reads as it did. -/
def bitioTakesSpec : ChangeSpec := { name := "bitioTakes", fn := fun _ => fun
  | [d] => { results := [.lit (.bool true)], args := [d] }
  | _ => none }
def bitioTakesRow : OpenClaim := { program := "ytimcbgcjnfdcaaa", sum := "d3793dfefcf885432a98fcd776ee11f80f34ae7ca186e1d2f98b0aec47ac8d31", func := "corpora/corporalaw02.BitioTakes", spec := "bitioTakes", apart := false }
def BitioTakesSaid : Prop := bitioTakesRow.holds Try.pinned (OpenSpec.ofChange bitioTakesSpec)

/-- ITS FALSE NEIGHBOUR: 'it returns false'. Refute it at one input. -/
def bitioTakesWrong : ChangeSpec := { name := "bitioTakes", fn := fun _ => fun
  | [d] => { results := [.lit (.bool false)], args := [d] }
  | _ => none }
def BitioTakesWrongFalsely : Prop := bitioTakesRow.holds Try.pinned (OpenSpec.ofChange bitioTakesWrong)

/-- 'corporalaw02.BitioBack': WHATEVER THE INPUT: true; the input reads as it did. -/
def bitioBackSpec : ChangeSpec := { name := "bitioBack", fn := fun _ => fun
  | [d1, d2] => { results := [.lit (.bool true)], args := [d1, d2] }
  | _ => none }
def bitioBackRow : OpenClaim := { program := "ytimcbgcjnfdcaaa", sum := "d3793dfefcf885432a98fcd776ee11f80f34ae7ca186e1d2f98b0aec47ac8d31", func := "corpora/corporalaw02.BitioBack", spec := "bitioBack", apart := false }
def BitioBackSaid : Prop := bitioBackRow.holds Try.pinned (OpenSpec.ofChange bitioBackSpec)

/-- ITS FALSE NEIGHBOUR: 'it returns false'. Refute it at one input. -/
def bitioBackWrong : ChangeSpec := { name := "bitioBack", fn := fun _ => fun
  | [d1, d2] => { results := [.lit (.bool false)], args := [d1, d2] }
  | _ => none }
def BitioBackWrongFalsely : Prop := bitioBackRow.holds Try.pinned (OpenSpec.ofChange bitioBackWrong)

/-- 'corporalaw02.BitioWrites': WHATEVER THE INPUT: true; the input reads as it did. -/
def bitioWritesSpec : ChangeSpec := { name := "bitioWrites", fn := fun _ => fun
  | [d] => { results := [.lit (.bool true)], args := [d] }
  | _ => none }
def bitioWritesRow : OpenClaim := { program := "ytimcbgcjnfdcaaa", sum := "d3793dfefcf885432a98fcd776ee11f80f34ae7ca186e1d2f98b0aec47ac8d31", func := "corpora/corporalaw02.BitioWrites", spec := "bitioWrites", recurses := true, apart := false }
def BitioWritesSaid : Prop := bitioWritesRow.holds Try.pinned (OpenSpec.ofChange bitioWritesSpec)

/-- ITS FALSE NEIGHBOUR: 'it returns false'. Refute it at one input. -/
def bitioWritesWrong : ChangeSpec := { name := "bitioWrites", fn := fun _ => fun
  | [d] => { results := [.lit (.bool false)], args := [d] }
  | _ => none }
def BitioWritesWrongFalsely : Prop := bitioWritesRow.holds Try.pinned (OpenSpec.ofChange bitioWritesWrong)

/-- 'corporalaw02.BitioSuffixes': WHATEVER THE INPUT: true; the input reads as it did. -/
def bitioSuffixesSpec : ChangeSpec := { name := "bitioSuffixes", fn := fun _ => fun
  | [d1, d2] => { results := [.lit (.bool true)], args := [d1, d2] }
  | _ => none }
def bitioSuffixesRow : OpenClaim := { program := "ytimcbgcjnfdcaaa", sum := "d3793dfefcf885432a98fcd776ee11f80f34ae7ca186e1d2f98b0aec47ac8d31", func := "corpora/corporalaw02.BitioSuffixes", spec := "bitioSuffixes", apart := false }
def BitioSuffixesSaid : Prop := bitioSuffixesRow.holds Try.pinned (OpenSpec.ofChange bitioSuffixesSpec)

/-- ITS FALSE NEIGHBOUR: 'it returns false'. Refute it at one input. -/
def bitioSuffixesWrong : ChangeSpec := { name := "bitioSuffixes", fn := fun _ => fun
  | [d1, d2] => { results := [.lit (.bool false)], args := [d1, d2] }
  | _ => none }
def BitioSuffixesWrongFalsely : Prop := bitioSuffixesRow.holds Try.pinned (OpenSpec.ofChange bitioSuffixesWrong)

/-- 'corporalaw02.BitioReads': WHATEVER THE INPUT: true; the input reads as it did. -/
def bitioReadsSpec : ChangeSpec := { name := "bitioReads", fn := fun _ => fun
  | [d1, d2, d3] => { results := [.lit (.bool true)], args := [d1, d2, d3] }
  | _ => none }
def bitioReadsRow : OpenClaim := { program := "ytimcbgcjnfdcaaa", sum := "d3793dfefcf885432a98fcd776ee11f80f34ae7ca186e1d2f98b0aec47ac8d31", func := "corpora/corporalaw02.BitioReads", spec := "bitioReads", apart := false }
def BitioReadsSaid : Prop := bitioReadsRow.holds Try.pinned (OpenSpec.ofChange bitioReadsSpec)

/-- ITS FALSE NEIGHBOUR: 'it returns false'. Refute it at one input. -/
def bitioReadsWrong : ChangeSpec := { name := "bitioReads", fn := fun _ => fun
  | [d1, d2, d3] => { results := [.lit (.bool false)], args := [d1, d2, d3] }
  | _ => none }
def BitioReadsWrongFalsely : Prop := bitioReadsRow.holds Try.pinned (OpenSpec.ofChange bitioReadsWrong)

/-- 'corporalaw02.BitioSeeks': WHATEVER THE INPUT: true; the input reads as it did. -/
def bitioSeeksSpec : ChangeSpec := { name := "bitioSeeks", fn := fun _ => fun
  | [d1, d2, d3] => { results := [.lit (.bool true)], args := [d1, d2, d3] }
  | _ => none }
def bitioSeeksRow : OpenClaim := { program := "ytimcbgcjnfdcaaa", sum := "d3793dfefcf885432a98fcd776ee11f80f34ae7ca186e1d2f98b0aec47ac8d31", func := "corpora/corporalaw02.BitioSeeks", spec := "bitioSeeks", apart := false }
def BitioSeeksSaid : Prop := bitioSeeksRow.holds Try.pinned (OpenSpec.ofChange bitioSeeksSpec)

/-- ITS FALSE NEIGHBOUR: 'it returns false'. Refute it at one input. -/
def bitioSeeksWrong : ChangeSpec := { name := "bitioSeeks", fn := fun _ => fun
  | [d1, d2, d3] => { results := [.lit (.bool false)], args := [d1, d2, d3] }
  | _ => none }
def BitioSeeksWrongFalsely : Prop := bitioSeeksRow.holds Try.pinned (OpenSpec.ofChange bitioSeeksWrong)

/-- 'corporalaw02.BitioRoundTrips': WHATEVER THE INPUT: true; the input reads as it did. -/
def bitioRoundTripsSpec : ChangeSpec := { name := "bitioRoundTrips", fn := fun _ => fun
  | [d] => { results := [.lit (.bool true)], args := [d] }
  | _ => none }
def bitioRoundTripsRow : OpenClaim := { program := "ytimcbgcjnfdcaaa", sum := "d3793dfefcf885432a98fcd776ee11f80f34ae7ca186e1d2f98b0aec47ac8d31", func := "corpora/corporalaw02.BitioRoundTrips", spec := "bitioRoundTrips", apart := false }
def BitioRoundTripsSaid : Prop := bitioRoundTripsRow.holds Try.pinned (OpenSpec.ofChange bitioRoundTripsSpec)

/-- ITS FALSE NEIGHBOUR: 'it returns false'. Refute it at one input. -/
def bitioRoundTripsWrong : ChangeSpec := { name := "bitioRoundTrips", fn := fun _ => fun
  | [d] => { results := [.lit (.bool false)], args := [d] }
  | _ => none }
def BitioRoundTripsWrongFalsely : Prop := bitioRoundTripsRow.holds Try.pinned (OpenSpec.ofChange bitioRoundTripsWrong)

/- THE SECOND FORM. 'bulk': how many values and letters a reading holds, each counted each time it is reached (what is shared counts as often as it is met; a slice's spare places count too). A statement '..UptoSaid' is the law's where the arguments, and the package variables that the reading takes, are together of bulk at most 1048576: NARROWER than '..Said'. Prove '..Said' where nothing that the law and all that it calls make is longer than what came in: it says more and counts as full. Else prove '..UptoSaid'. A law counts once. -/
mutual
def uptoBulk {H : Type} : DataW H → Nat
  | .lit (.string bytes) => bytes.length + 1
  | .lit _ => 1
  | .nil => 1
  | .ptr d => uptoBulk d + 1
  | .slice elems spare => uptoBulkAll elems + uptoBulkAll spare + 1
  | .agg parts => uptoBulkAll parts + 1
  | .iface _ d => uptoBulk d + 1
  | .map entries => uptoBulkEntries entries + 1
  | .held _ => 1
def uptoBulkAll {H : Type} : List (DataW H) → Nat
  | [] => 0
  | d :: r => uptoBulk d + uptoBulkAll r
def uptoBulkEntries {H : Type} : List (Lit × DataW H) → Nat
  | [] => 0
  | x :: r => uptoBulkEntry x + uptoBulkEntries r
def uptoBulkEntry {H : Type} : Lit × DataW H → Nat
  | (.string bytes, d) => bytes.length + uptoBulk d + 1
  | (_, d) => uptoBulk d + 1
 end
def uptoSmall : (H : Type) → List (DataW H) → Bool := fun _ ds => decide (uptoBulkAll ds ≤ 1048576)
def OpenSpec.upto (s : _root_.Go.ChangeSpec) : _root_.Go.OpenSpec := { _root_.Go.OpenSpec.ofChange s with cond := some uptoSmall }

/-- 'corporalaw02.BitioPuts', WHERE WHAT IT READS IS OF BULK AT MOST 1048576: true; the input reads as it did. -/
def bitioPutsUptoRow : OpenClaim := { program := "ytimcbgcjnfdcaaa", sum := "d3793dfefcf885432a98fcd776ee11f80f34ae7ca186e1d2f98b0aec47ac8d31", func := "corpora/corporalaw02.BitioPuts", spec := "bitioPuts", apart := false, narrowed := true }
def BitioPutsUptoSaid : Prop := bitioPutsUptoRow.holds Try.pinned (OpenSpec.upto bitioPutsSpec)

/-- 'corporalaw02.BitioGrows', WHERE WHAT IT READS IS OF BULK AT MOST 1048576: true; the input reads as it did. -/
def bitioGrowsUptoRow : OpenClaim := { program := "ytimcbgcjnfdcaaa", sum := "d3793dfefcf885432a98fcd776ee11f80f34ae7ca186e1d2f98b0aec47ac8d31", func := "corpora/corporalaw02.BitioGrows", spec := "bitioGrows", apart := false, narrowed := true }
def BitioGrowsUptoSaid : Prop := bitioGrowsUptoRow.holds Try.pinned (OpenSpec.upto bitioGrowsSpec)

/-- 'corporalaw02.BitioSizes', WHERE WHAT IT READS IS OF BULK AT MOST 1048576: true; the input reads as it did. -/
def bitioSizesUptoRow : OpenClaim := { program := "ytimcbgcjnfdcaaa", sum := "d3793dfefcf885432a98fcd776ee11f80f34ae7ca186e1d2f98b0aec47ac8d31", func := "corpora/corporalaw02.BitioSizes", spec := "bitioSizes", apart := false, narrowed := true }
def BitioSizesUptoSaid : Prop := bitioSizesUptoRow.holds Try.pinned (OpenSpec.upto bitioSizesSpec)

/-- 'corporalaw02.BitioTakes', WHERE WHAT IT READS IS OF BULK AT MOST 1048576: true; the input reads as it did. -/
def bitioTakesUptoRow : OpenClaim := { program := "ytimcbgcjnfdcaaa", sum := "d3793dfefcf885432a98fcd776ee11f80f34ae7ca186e1d2f98b0aec47ac8d31", func := "corpora/corporalaw02.BitioTakes", spec := "bitioTakes", apart := false, narrowed := true }
def BitioTakesUptoSaid : Prop := bitioTakesUptoRow.holds Try.pinned (OpenSpec.upto bitioTakesSpec)

/-- 'corporalaw02.BitioBack', WHERE WHAT IT READS IS OF BULK AT MOST 1048576: true; the input reads as it did. -/
def bitioBackUptoRow : OpenClaim := { program := "ytimcbgcjnfdcaaa", sum := "d3793dfefcf885432a98fcd776ee11f80f34ae7ca186e1d2f98b0aec47ac8d31", func := "corpora/corporalaw02.BitioBack", spec := "bitioBack", apart := false, narrowed := true }
def BitioBackUptoSaid : Prop := bitioBackUptoRow.holds Try.pinned (OpenSpec.upto bitioBackSpec)

/-- 'corporalaw02.BitioWrites', WHERE WHAT IT READS IS OF BULK AT MOST 1048576: true; the input reads as it did. -/
def bitioWritesUptoRow : OpenClaim := { program := "ytimcbgcjnfdcaaa", sum := "d3793dfefcf885432a98fcd776ee11f80f34ae7ca186e1d2f98b0aec47ac8d31", func := "corpora/corporalaw02.BitioWrites", spec := "bitioWrites", recurses := true, apart := false, narrowed := true }
def BitioWritesUptoSaid : Prop := bitioWritesUptoRow.holds Try.pinned (OpenSpec.upto bitioWritesSpec)

/-- 'corporalaw02.BitioSuffixes', WHERE WHAT IT READS IS OF BULK AT MOST 1048576: true; the input reads as it did. -/
def bitioSuffixesUptoRow : OpenClaim := { program := "ytimcbgcjnfdcaaa", sum := "d3793dfefcf885432a98fcd776ee11f80f34ae7ca186e1d2f98b0aec47ac8d31", func := "corpora/corporalaw02.BitioSuffixes", spec := "bitioSuffixes", apart := false, narrowed := true }
def BitioSuffixesUptoSaid : Prop := bitioSuffixesUptoRow.holds Try.pinned (OpenSpec.upto bitioSuffixesSpec)

/-- 'corporalaw02.BitioReads', WHERE WHAT IT READS IS OF BULK AT MOST 1048576: true; the input reads as it did. -/
def bitioReadsUptoRow : OpenClaim := { program := "ytimcbgcjnfdcaaa", sum := "d3793dfefcf885432a98fcd776ee11f80f34ae7ca186e1d2f98b0aec47ac8d31", func := "corpora/corporalaw02.BitioReads", spec := "bitioReads", apart := false, narrowed := true }
def BitioReadsUptoSaid : Prop := bitioReadsUptoRow.holds Try.pinned (OpenSpec.upto bitioReadsSpec)

/-- 'corporalaw02.BitioSeeks', WHERE WHAT IT READS IS OF BULK AT MOST 1048576: true; the input reads as it did. -/
def bitioSeeksUptoRow : OpenClaim := { program := "ytimcbgcjnfdcaaa", sum := "d3793dfefcf885432a98fcd776ee11f80f34ae7ca186e1d2f98b0aec47ac8d31", func := "corpora/corporalaw02.BitioSeeks", spec := "bitioSeeks", apart := false, narrowed := true }
def BitioSeeksUptoSaid : Prop := bitioSeeksUptoRow.holds Try.pinned (OpenSpec.upto bitioSeeksSpec)

/-- 'corporalaw02.BitioRoundTrips', WHERE WHAT IT READS IS OF BULK AT MOST 1048576: true; the input reads as it did. -/
def bitioRoundTripsUptoRow : OpenClaim := { program := "ytimcbgcjnfdcaaa", sum := "d3793dfefcf885432a98fcd776ee11f80f34ae7ca186e1d2f98b0aec47ac8d31", func := "corpora/corporalaw02.BitioRoundTrips", spec := "bitioRoundTrips", apart := false, narrowed := true }
def BitioRoundTripsUptoSaid : Prop := bitioRoundTripsUptoRow.holds Try.pinned (OpenSpec.upto bitioRoundTripsSpec)

end Rows
end Go.Proofs.Ytimcbgcjnfdcaaa
