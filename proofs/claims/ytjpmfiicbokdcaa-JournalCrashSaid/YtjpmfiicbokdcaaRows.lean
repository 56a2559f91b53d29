/-
  No cell of these rows narrows 'for every input' (looked for: loops, veiled, ifaces, maps, wideKeys, modest, calm, conditions, laid).
  DERIVED. THE GIVEN ROWS OF THIS SEAT. 10 by the template 'for every input the law returns true; each argument reads behind the call as it read before'; 0 by the template 'total and deterministic' (their statements: YtjpmfiicbokdcaaTotals.lean).
  GIVEN WITH THE SEED: the statements are not yours to turn. If you find one false, say at which input.
  Laid BY PROGRAM, IN A SANDBOX (cutbox-rows.mjs): the forced cells as the released guide's own fill.sh prints them over the translation d503506f07f910e8… (all of the seat's roots in one cut). By AI agents, Wed Nov 11 2026. No macro, syntax, notation, axiom, sorry.
-/
import Derived.Test.YtjpmfiicbokdcaaChecked
import GoSem.Claim
import GoSem.ClaimJoined
import GoSem.ClaimMapViews
import Derived.JoinedTies
import Derived.KernelRfl
namespace Go.Proofs.Ytjpmfiicbokdcaa
/- THE CELL 'sum', in the pinned program and in every row, IS THE sha256 OF THE DUMP (.gsa) THAT YtjpmfiicbokdcaaProg.lean LOADS. Nothing in Lean hashes anything: it is a label: what it is worth is what the hold of that sum in a sandbox is worth. -/
noncomputable def Try.pinned : Pinned := { name := "ytjpmfiicbokdcaa", sum := "d503506f07f910e82342a1529fc1f98c8bb396c913594b6da2369502c0f82390", checked := Try.checked }
namespace Rows
def none {H : Type} : Left H := { results := [], args := [] }

/-- 'corporalaw39.DiskSpoilt': WHATEVER THE INPUT: true; the input reads as it did. -/
def diskSpoiltSpec : ChangeSpec := { name := "diskSpoilt", fn := fun _ => fun
  | [d1, d2, d3] => { results := [.lit (.bool true)], args := [d1, d2, d3] }
  | _ => none }
def diskSpoiltRow : OpenClaim := { program := "ytjpmfiicbokdcaa", sum := "d503506f07f910e82342a1529fc1f98c8bb396c913594b6da2369502c0f82390", func := "corpora/corporalaw39.DiskSpoilt", spec := "diskSpoilt", inPlace := ["internal/bytealg.abigen_runtime_cmpstring", "slices.overlaps[corpora/api.Entry]", "internal/abi.NoEscape", "internal/bytealg.MakeNoZero"], unfollowed := true, recurses := true, apart := false }
def DiskSpoiltSaid : Prop := diskSpoiltRow.holds Try.pinned (OpenSpec.ofChange diskSpoiltSpec)

/-- ITS FALSE NEIGHBOUR: 'it returns false'. Refute it at one input. -/
def diskSpoiltWrong : ChangeSpec := { name := "diskSpoilt", fn := fun _ => fun
  | [d1, d2, d3] => { results := [.lit (.bool false)], args := [d1, d2, d3] }
  | _ => none }
def DiskSpoiltWrongFalsely : Prop := diskSpoiltRow.holds Try.pinned (OpenSpec.ofChange diskSpoiltWrong)

/-- 'corporalaw39.DiskCrashes': WHATEVER THE INPUT: true; the input reads as it did. -/
def diskCrashesSpec : ChangeSpec := { name := "diskCrashes", fn := fun _ => fun
  | [d1, d2] => { results := [.lit (.bool true)], args := [d1, d2] }
  | _ => none }
def diskCrashesRow : OpenClaim := { program := "ytjpmfiicbokdcaa", sum := "d503506f07f910e82342a1529fc1f98c8bb396c913594b6da2369502c0f82390", func := "corpora/corporalaw39.DiskCrashes", spec := "diskCrashes", inPlace := ["internal/bytealg.abigen_runtime_cmpstring", "slices.overlaps[corpora/api.Entry]", "internal/abi.NoEscape", "internal/bytealg.MakeNoZero"], unfollowed := true, recurses := true, apart := false }
def DiskCrashesSaid : Prop := diskCrashesRow.holds Try.pinned (OpenSpec.ofChange diskCrashesSpec)

/-- ITS FALSE NEIGHBOUR: 'it returns false'. Refute it at one input. -/
def diskCrashesWrong : ChangeSpec := { name := "diskCrashes", fn := fun _ => fun
  | [d1, d2] => { results := [.lit (.bool false)], args := [d1, d2] }
  | _ => none }
def DiskCrashesWrongFalsely : Prop := diskCrashesRow.holds Try.pinned (OpenSpec.ofChange diskCrashesWrong)

/-- 'corporalaw39.DiskTwice': WHATEVER THE INPUT: true; the input reads as it did. -/
def diskTwiceSpec : ChangeSpec := { name := "diskTwice", fn := fun _ => fun
  | [d1, d2, d3] => { results := [.lit (.bool true)], args := [d1, d2, d3] }
  | _ => none }
def diskTwiceRow : OpenClaim := { program := "ytjpmfiicbokdcaa", sum := "d503506f07f910e82342a1529fc1f98c8bb396c913594b6da2369502c0f82390", func := "corpora/corporalaw39.DiskTwice", spec := "diskTwice", inPlace := ["internal/bytealg.abigen_runtime_cmpstring", "slices.overlaps[corpora/api.Entry]", "internal/abi.NoEscape", "internal/bytealg.MakeNoZero"], unfollowed := true, recurses := true, apart := false }
def DiskTwiceSaid : Prop := diskTwiceRow.holds Try.pinned (OpenSpec.ofChange diskTwiceSpec)

/-- ITS FALSE NEIGHBOUR: 'it returns false'. Refute it at one input. -/
def diskTwiceWrong : ChangeSpec := { name := "diskTwice", fn := fun _ => fun
  | [d1, d2, d3] => { results := [.lit (.bool false)], args := [d1, d2, d3] }
  | _ => none }
def DiskTwiceWrongFalsely : Prop := diskTwiceRow.holds Try.pinned (OpenSpec.ofChange diskTwiceWrong)

/-- 'corporalaw39.DiskDurable': WHATEVER THE INPUT: true; the input reads as it did. -/
def diskDurableSpec : ChangeSpec := { name := "diskDurable", fn := fun _ => fun
  | [d1, d2] => { results := [.lit (.bool true)], args := [d1, d2] }
  | _ => none }
def diskDurableRow : OpenClaim := { program := "ytjpmfiicbokdcaa", sum := "d503506f07f910e82342a1529fc1f98c8bb396c913594b6da2369502c0f82390", func := "corpora/corporalaw39.DiskDurable", spec := "diskDurable", inPlace := ["internal/bytealg.abigen_runtime_cmpstring", "slices.overlaps[corpora/api.Entry]", "internal/abi.NoEscape", "internal/bytealg.MakeNoZero"], unfollowed := true, recurses := true, apart := false }
def DiskDurableSaid : Prop := diskDurableRow.holds Try.pinned (OpenSpec.ofChange diskDurableSpec)

/-- ITS FALSE NEIGHBOUR: 'it returns false'. Refute it at one input. -/
def diskDurableWrong : ChangeSpec := { name := "diskDurable", fn := fun _ => fun
  | [d1, d2] => { results := [.lit (.bool false)], args := [d1, d2] }
  | _ => none }
def DiskDurableWrongFalsely : Prop := diskDurableRow.holds Try.pinned (OpenSpec.ofChange diskDurableWrong)

/-- 'corporalaw39.DiskPrefix': WHATEVER THE INPUT: true; the input reads as it did. -/
def diskPrefixSpec : ChangeSpec := { name := "diskPrefix", fn := fun _ => fun
  | [d1, d2] => { results := [.lit (.bool true)], args := [d1, d2] }
  | _ => none }
def diskPrefixRow : OpenClaim := { program := "ytjpmfiicbokdcaa", sum := "d503506f07f910e82342a1529fc1f98c8bb396c913594b6da2369502c0f82390", func := "corpora/corporalaw39.DiskPrefix", spec := "diskPrefix", inPlace := ["internal/bytealg.abigen_runtime_cmpstring", "slices.overlaps[corpora/api.Entry]", "internal/abi.NoEscape", "internal/bytealg.MakeNoZero"], unfollowed := true, recurses := true, apart := false }
def DiskPrefixSaid : Prop := diskPrefixRow.holds Try.pinned (OpenSpec.ofChange diskPrefixSpec)

/-- ITS FALSE NEIGHBOUR: 'it returns false'. Refute it at one input. -/
def diskPrefixWrong : ChangeSpec := { name := "diskPrefix", fn := fun _ => fun
  | [d1, d2] => { results := [.lit (.bool false)], args := [d1, d2] }
  | _ => none }
def DiskPrefixWrongFalsely : Prop := diskPrefixRow.holds Try.pinned (OpenSpec.ofChange diskPrefixWrong)

/-- 'corporalaw39.DiskNames': WHATEVER THE INPUT: true; the input reads as it did. -/
def diskNamesSpec : ChangeSpec := { name := "diskNames", fn := fun _ => fun
  | [d1, d2] => { results := [.lit (.bool true)], args := [d1, d2] }
  | _ => none }
def diskNamesRow : OpenClaim := { program := "ytjpmfiicbokdcaa", sum := "d503506f07f910e82342a1529fc1f98c8bb396c913594b6da2369502c0f82390", func := "corpora/corporalaw39.DiskNames", spec := "diskNames", inPlace := ["internal/bytealg.abigen_runtime_cmpstring", "slices.overlaps[corpora/api.Entry]", "internal/abi.NoEscape", "internal/bytealg.MakeNoZero"], unfollowed := true, recurses := true, apart := false }
def DiskNamesSaid : Prop := diskNamesRow.holds Try.pinned (OpenSpec.ofChange diskNamesSpec)

/-- ITS FALSE NEIGHBOUR: 'it returns false'. Refute it at one input. -/
def diskNamesWrong : ChangeSpec := { name := "diskNames", fn := fun _ => fun
  | [d1, d2] => { results := [.lit (.bool false)], args := [d1, d2] }
  | _ => none }
def DiskNamesWrongFalsely : Prop := diskNamesRow.holds Try.pinned (OpenSpec.ofChange diskNamesWrong)

/-- 'corporalaw39.DiskApplies': WHATEVER THE INPUT: true; the input reads as it did. -/
def diskAppliesSpec : ChangeSpec := { name := "diskApplies", fn := fun _ => fun
  | [d] => { results := [.lit (.bool true)], args := [d] }
  | _ => none }
def diskAppliesRow : OpenClaim := { program := "ytjpmfiicbokdcaa", sum := "d503506f07f910e82342a1529fc1f98c8bb396c913594b6da2369502c0f82390", func := "corpora/corporalaw39.DiskApplies", spec := "diskApplies", inPlace := ["internal/bytealg.abigen_runtime_cmpstring", "slices.overlaps[corpora/api.Entry]", "internal/abi.NoEscape", "internal/bytealg.MakeNoZero"], unfollowed := true, recurses := true, apart := false }
def DiskAppliesSaid : Prop := diskAppliesRow.holds Try.pinned (OpenSpec.ofChange diskAppliesSpec)

/-- ITS FALSE NEIGHBOUR: 'it returns false'. Refute it at one input. -/
def diskAppliesWrong : ChangeSpec := { name := "diskApplies", fn := fun _ => fun
  | [d] => { results := [.lit (.bool false)], args := [d] }
  | _ => none }
def DiskAppliesWrongFalsely : Prop := diskAppliesRow.holds Try.pinned (OpenSpec.ofChange diskAppliesWrong)

/-- 'corporalaw39.DiskAll': WHATEVER THE INPUT: true; the input reads as it did. -/
def diskAllSpec : ChangeSpec := { name := "diskAll", fn := fun _ => fun
  | [d] => { results := [.lit (.bool true)], args := [d] }
  | _ => none }
def diskAllRow : OpenClaim := { program := "ytjpmfiicbokdcaa", sum := "d503506f07f910e82342a1529fc1f98c8bb396c913594b6da2369502c0f82390", func := "corpora/corporalaw39.DiskAll", spec := "diskAll", inPlace := ["internal/bytealg.abigen_runtime_cmpstring", "slices.overlaps[corpora/api.Entry]", "internal/abi.NoEscape", "internal/bytealg.MakeNoZero"], unfollowed := true, recurses := true, apart := false }
def DiskAllSaid : Prop := diskAllRow.holds Try.pinned (OpenSpec.ofChange diskAllSpec)

/-- ITS FALSE NEIGHBOUR: 'it returns false'. Refute it at one input. -/
def diskAllWrong : ChangeSpec := { name := "diskAll", fn := fun _ => fun
  | [d] => { results := [.lit (.bool false)], args := [d] }
  | _ => none }
def DiskAllWrongFalsely : Prop := diskAllRow.holds Try.pinned (OpenSpec.ofChange diskAllWrong)

/-- 'corporalaw39.DiskRaw': WHATEVER THE INPUT: true; the input reads as it did. -/
def diskRawSpec : ChangeSpec := { name := "diskRaw", fn := fun _ => fun
  | [d1, d2, d3] => { results := [.lit (.bool true)], args := [d1, d2, d3] }
  | _ => none }
def diskRawRow : OpenClaim := { program := "ytjpmfiicbokdcaa", sum := "d503506f07f910e82342a1529fc1f98c8bb396c913594b6da2369502c0f82390", func := "corpora/corporalaw39.DiskRaw", spec := "diskRaw", inPlace := ["internal/bytealg.abigen_runtime_cmpstring", "slices.overlaps[corpora/api.Entry]", "internal/abi.NoEscape", "internal/bytealg.MakeNoZero"], unfollowed := true, recurses := true, apart := false }
def DiskRawSaid : Prop := diskRawRow.holds Try.pinned (OpenSpec.ofChange diskRawSpec)

/-- ITS FALSE NEIGHBOUR: 'it returns false'. Refute it at one input. -/
def diskRawWrong : ChangeSpec := { name := "diskRaw", fn := fun _ => fun
  | [d1, d2, d3] => { results := [.lit (.bool false)], args := [d1, d2, d3] }
  | _ => none }
def DiskRawWrongFalsely : Prop := diskRawRow.holds Try.pinned (OpenSpec.ofChange diskRawWrong)

/-- 'corporalaw40.JournalCrash': WHATEVER THE INPUT: true; the input reads as it did. -/
def journalCrashSpec : ChangeSpec := { name := "journalCrash", fn := fun _ => fun
  | [d1, d2, d3] => { results := [.lit (.bool true)], args := [d1, d2, d3] }
  | _ => none }
def journalCrashRow : OpenClaim := { program := "ytjpmfiicbokdcaa", sum := "d503506f07f910e82342a1529fc1f98c8bb396c913594b6da2369502c0f82390", func := "corpora/corporalaw40.JournalCrash", spec := "journalCrash", inPlace := ["internal/bytealg.abigen_runtime_cmpstring", "slices.overlaps[corpora/api.Entry]", "internal/abi.NoEscape", "internal/bytealg.MakeNoZero"], unfollowed := true, recurses := true, apart := false }
def JournalCrashSaid : Prop := journalCrashRow.holds Try.pinned (OpenSpec.ofChange journalCrashSpec)

/-- ITS FALSE NEIGHBOUR: 'it returns false'. Refute it at one input. -/
def journalCrashWrong : ChangeSpec := { name := "journalCrash", fn := fun _ => fun
  | [d1, d2, d3] => { results := [.lit (.bool false)], args := [d1, d2, d3] }
  | _ => none }
def JournalCrashWrongFalsely : Prop := journalCrashRow.holds Try.pinned (OpenSpec.ofChange journalCrashWrong)

/- THE SECOND FORM. 'bulk': how many values and letters a reading holds, each counted each time it is reached (what is shared counts as often as it is met; a slice's spare places count too). A statement '..UptoSaid' is the law's where the arguments, and the package variables that the reading takes, are together of bulk at most 1048576: NARROWER than '..Said'. Prove '..Said' where nothing that the law and all that it calls make is longer than what came in: it says more and counts as full. Else prove '..UptoSaid'. A law counts once. -/
mutual
def uptoBulk {H : Type} : DataW H → Nat
  | .lit (.string bytes) => bytes.length + 1
  | .lit _ => 1
  | .nil => 1
  | .ptr d => uptoBulk d + 1
  | .slice elems spare => uptoBulkAll elems + uptoBulkAll spare + 1
  | .agg parts => uptoBulkAll parts + 1
  | .iface _ d => uptoBulk d + 1
  | .map entries => uptoBulkEntries entries + 1
  | .held _ => 1
def uptoBulkAll {H : Type} : List (DataW H) → Nat
  | [] => 0
  | d :: r => uptoBulk d + uptoBulkAll r
def uptoBulkEntries {H : Type} : List (Lit × DataW H) → Nat
  | [] => 0
  | x :: r => uptoBulkEntry x + uptoBulkEntries r
def uptoBulkEntry {H : Type} : Lit × DataW H → Nat
  | (.string bytes, d) => bytes.length + uptoBulk d + 1
  | (_, d) => uptoBulk d + 1
 end
def uptoSmall : (H : Type) → List (DataW H) → Bool := fun _ ds => decide (uptoBulkAll ds ≤ 1048576)
def OpenSpec.upto (s : _root_.Go.ChangeSpec) : _root_.Go.OpenSpec := { _root_.Go.OpenSpec.ofChange s with cond := some uptoSmall }

/-- 'corporalaw39.DiskSpoilt', WHERE WHAT IT READS IS OF BULK AT MOST 1048576: true; the input reads as it did. -/
def diskSpoiltUptoRow : OpenClaim := { program := "ytjpmfiicbokdcaa", sum := "d503506f07f910e82342a1529fc1f98c8bb396c913594b6da2369502c0f82390", func := "corpora/corporalaw39.DiskSpoilt", spec := "diskSpoilt", inPlace := ["internal/bytealg.abigen_runtime_cmpstring", "slices.overlaps[corpora/api.Entry]", "internal/abi.NoEscape", "internal/bytealg.MakeNoZero"], unfollowed := true, recurses := true, apart := false, narrowed := true }
def DiskSpoiltUptoSaid : Prop := diskSpoiltUptoRow.holds Try.pinned (OpenSpec.upto diskSpoiltSpec)

/-- 'corporalaw39.DiskCrashes', WHERE WHAT IT READS IS OF BULK AT MOST 1048576: true; the input reads as it did. -/
def diskCrashesUptoRow : OpenClaim := { program := "ytjpmfiicbokdcaa", sum := "d503506f07f910e82342a1529fc1f98c8bb396c913594b6da2369502c0f82390", func := "corpora/corporalaw39.DiskCrashes", spec := "diskCrashes", inPlace := ["internal/bytealg.abigen_runtime_cmpstring", "slices.overlaps[corpora/api.Entry]", "internal/abi.NoEscape", "internal/bytealg.MakeNoZero"], unfollowed := true, recurses := true, apart := false, narrowed := true }
def DiskCrashesUptoSaid : Prop := diskCrashesUptoRow.holds Try.pinned (OpenSpec.upto diskCrashesSpec)

/-- 'corporalaw39.DiskTwice', WHERE WHAT IT READS IS OF BULK AT MOST 1048576: true; the input reads as it did. -/
def diskTwiceUptoRow : OpenClaim := { program := "ytjpmfiicbokdcaa", sum := "d503506f07f910e82342a1529fc1f98c8bb396c913594b6da2369502c0f82390", func := "corpora/corporalaw39.DiskTwice", spec := "diskTwice", inPlace := ["internal/bytealg.abigen_runtime_cmpstring", "slices.overlaps[corpora/api.Entry]", "internal/abi.NoEscape", "internal/bytealg.MakeNoZero"], unfollowed := true, recurses := true, apart := false, narrowed := true }
def DiskTwiceUptoSaid : Prop := diskTwiceUptoRow.holds Try.pinned (OpenSpec.upto diskTwiceSpec)

/-- 'corporalaw39.DiskDurable', WHERE WHAT IT READS IS OF BULK AT MOST 1048576: true; the input reads as it did. -/
def diskDurableUptoRow : OpenClaim := { program := "ytjpmfiicbokdcaa", sum := "d503506f07f910e82342a1529fc1f98c8bb396c913594b6da2369502c0f82390", func := "corpora/corporalaw39.DiskDurable", spec := "diskDurable", inPlace := ["internal/bytealg.abigen_runtime_cmpstring", "slices.overlaps[corpora/api.Entry]", "internal/abi.NoEscape", "internal/bytealg.MakeNoZero"], unfollowed := true, recurses := true, apart := false, narrowed := true }
def DiskDurableUptoSaid : Prop := diskDurableUptoRow.holds Try.pinned (OpenSpec.upto diskDurableSpec)

/-- 'corporalaw39.DiskPrefix', WHERE WHAT IT READS IS OF BULK AT MOST 1048576: true; the input reads as it did. -/
def diskPrefixUptoRow : OpenClaim := { program := "ytjpmfiicbokdcaa", sum := "d503506f07f910e82342a1529fc1f98c8bb396c913594b6da2369502c0f82390", func := "corpora/corporalaw39.DiskPrefix", spec := "diskPrefix", inPlace := ["internal/bytealg.abigen_runtime_cmpstring", "slices.overlaps[corpora/api.Entry]", "internal/abi.NoEscape", "internal/bytealg.MakeNoZero"], unfollowed := true, recurses := true, apart := false, narrowed := true }
def DiskPrefixUptoSaid : Prop := diskPrefixUptoRow.holds Try.pinned (OpenSpec.upto diskPrefixSpec)

/-- 'corporalaw39.DiskNames', WHERE WHAT IT READS IS OF BULK AT MOST 1048576: true; the input reads as it did. -/
def diskNamesUptoRow : OpenClaim := { program := "ytjpmfiicbokdcaa", sum := "d503506f07f910e82342a1529fc1f98c8bb396c913594b6da2369502c0f82390", func := "corpora/corporalaw39.DiskNames", spec := "diskNames", inPlace := ["internal/bytealg.abigen_runtime_cmpstring", "slices.overlaps[corpora/api.Entry]", "internal/abi.NoEscape", "internal/bytealg.MakeNoZero"], unfollowed := true, recurses := true, apart := false, narrowed := true }
def DiskNamesUptoSaid : Prop := diskNamesUptoRow.holds Try.pinned (OpenSpec.upto diskNamesSpec)

/-- 'corporalaw39.DiskApplies', WHERE WHAT IT READS IS OF BULK AT MOST 1048576: true; the input reads as it did. -/
def diskAppliesUptoRow : OpenClaim := { program := "ytjpmfiicbokdcaa", sum := "d503506f07f910e82342a1529fc1f98c8bb396c913594b6da2369502c0f82390", func := "corpora/corporalaw39.DiskApplies", spec := "diskApplies", inPlace := ["internal/bytealg.abigen_runtime_cmpstring", "slices.overlaps[corpora/api.Entry]", "internal/abi.NoEscape", "internal/bytealg.MakeNoZero"], unfollowed := true, recurses := true, apart := false, narrowed := true }
def DiskAppliesUptoSaid : Prop := diskAppliesUptoRow.holds Try.pinned (OpenSpec.upto diskAppliesSpec)

/-- 'corporalaw39.DiskAll', WHERE WHAT IT READS IS OF BULK AT MOST 1048576: true; the input reads as it did. -/
def diskAllUptoRow : OpenClaim := { program := "ytjpmfiicbokdcaa", sum := "d503506f07f910e82342a1529fc1f98c8bb396c913594b6da2369502c0f82390", func := "corpora/corporalaw39.DiskAll", spec := "diskAll", inPlace := ["internal/bytealg.abigen_runtime_cmpstring", "slices.overlaps[corpora/api.Entry]", "internal/abi.NoEscape", "internal/bytealg.MakeNoZero"], unfollowed := true, recurses := true, apart := false, narrowed := true }
def DiskAllUptoSaid : Prop := diskAllUptoRow.holds Try.pinned (OpenSpec.upto diskAllSpec)

/-- 'corporalaw39.DiskRaw', WHERE WHAT IT READS IS OF BULK AT MOST 1048576: true; the input reads as it did. -/
def diskRawUptoRow : OpenClaim := { program := "ytjpmfiicbokdcaa", sum := "d503506f07f910e82342a1529fc1f98c8bb396c913594b6da2369502c0f82390", func := "corpora/corporalaw39.DiskRaw", spec := "diskRaw", inPlace := ["internal/bytealg.abigen_runtime_cmpstring", "slices.overlaps[corpora/api.Entry]", "internal/abi.NoEscape", "internal/bytealg.MakeNoZero"], unfollowed := true, recurses := true, apart := false, narrowed := true }
def DiskRawUptoSaid : Prop := diskRawUptoRow.holds Try.pinned (OpenSpec.upto diskRawSpec)

/-- 'corporalaw40.JournalCrash', WHERE WHAT IT READS IS OF BULK AT MOST 1048576: true; the input reads as it did. -/
def journalCrashUptoRow : OpenClaim := { program := "ytjpmfiicbokdcaa", sum := "d503506f07f910e82342a1529fc1f98c8bb396c913594b6da2369502c0f82390", func := "corpora/corporalaw40.JournalCrash", spec := "journalCrash", inPlace := ["internal/bytealg.abigen_runtime_cmpstring", "slices.overlaps[corpora/api.Entry]", "internal/abi.NoEscape", "internal/bytealg.MakeNoZero"], unfollowed := true, recurses := true, apart := false, narrowed := true }
def JournalCrashUptoSaid : Prop := journalCrashUptoRow.holds Try.pinned (OpenSpec.upto journalCrashSpec)

end Rows
end Go.Proofs.Ytjpmfiicbokdcaa
