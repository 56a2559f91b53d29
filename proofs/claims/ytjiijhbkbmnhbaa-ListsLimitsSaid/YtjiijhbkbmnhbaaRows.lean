/-
  No cell of these rows narrows 'for every input' (looked for: loops, veiled, ifaces, maps, wideKeys, modest, calm, conditions, laid).
  DERIVED. THE GIVEN ROWS OF THIS SEAT. 9 by the template 'for every input the law returns true; each argument reads behind the call as it read before'; 0 by the template 'total and deterministic' (their statements: YtjiijhbkbmnhbaaTotals.lean).
  GIVEN WITH THE SEED: the statements are not yours to turn. If you find one false, say at which input.
  Laid BY PROGRAM, IN A SANDBOX (cutbox-rows.mjs): the forced cells as the released guide's own fill.sh prints them over the translation e368b9c09666779e… (all of the seat's roots in one cut). By AI agents, Wed Nov 11 2026. No macro, syntax, notation, axiom, sorry.
-/
import Derived.Test.YtjiijhbkbmnhbaaChecked
import GoSem.Claim
import GoSem.ClaimJoined
import GoSem.ClaimMapViews
import Derived.JoinedTies
import Derived.KernelRfl
namespace Go.Proofs.Ytjiijhbkbmnhbaa
/- THE CELL 'sum', in the pinned program and in every row, IS THE sha256 OF THE DUMP (.gsa) THAT YtjiijhbkbmnhbaaProg.lean LOADS. Nothing in Lean hashes anything: it is a label: what it is worth is what the hold of that sum in a sandbox is worth. -/
noncomputable def Try.pinned : Pinned := { name := "ytjiijhbkbmnhbaa", sum := "e368b9c09666779ed38fbc48ed5c2ed59c44ab907ab7d60a7606b140215369f9", checked := Try.checked }
namespace Rows
def none {H : Type} : Left H := { results := [], args := [] }

/-- 'corporalaw18.ListsChecks': WHATEVER THE INPUT: true; the input reads as it did. -/
def listsChecksSpec : ChangeSpec := { name := "listsChecks", fn := fun _ => fun
  | [d] => { results := [.lit (.bool true)], args := [d] }
  | _ => none }
def listsChecksRow : OpenClaim := { program := "ytjiijhbkbmnhbaa", sum := "e368b9c09666779ed38fbc48ed5c2ed59c44ab907ab7d60a7606b140215369f9", func := "corpora/corporalaw18.ListsChecks", spec := "listsChecks", unfollowed := true, recurses := true, apart := false }
def ListsChecksSaid : Prop := listsChecksRow.holds Try.pinned (OpenSpec.ofChange listsChecksSpec)

/-- ITS FALSE NEIGHBOUR: 'it returns false'. Refute it at one input. -/
def listsChecksWrong : ChangeSpec := { name := "listsChecks", fn := fun _ => fun
  | [d] => { results := [.lit (.bool false)], args := [d] }
  | _ => none }
def ListsChecksWrongFalsely : Prop := listsChecksRow.holds Try.pinned (OpenSpec.ofChange listsChecksWrong)

/-- 'corporalaw18.ListsLimits': WHATEVER THE INPUT: true; the input reads as it did. -/
def listsLimitsSpec : ChangeSpec := { name := "listsLimits", fn := fun _ => fun
  | [d1, d2, d3] => { results := [.lit (.bool true)], args := [d1, d2, d3] }
  | _ => none }
def listsLimitsRow : OpenClaim := { program := "ytjiijhbkbmnhbaa", sum := "e368b9c09666779ed38fbc48ed5c2ed59c44ab907ab7d60a7606b140215369f9", func := "corpora/corporalaw18.ListsLimits", spec := "listsLimits", unfollowed := true, recurses := true, apart := false }
def ListsLimitsSaid : Prop := listsLimitsRow.holds Try.pinned (OpenSpec.ofChange listsLimitsSpec)

/-- ITS FALSE NEIGHBOUR: 'it returns false'. Refute it at one input. -/
def listsLimitsWrong : ChangeSpec := { name := "listsLimits", fn := fun _ => fun
  | [d1, d2, d3] => { results := [.lit (.bool false)], args := [d1, d2, d3] }
  | _ => none }
def ListsLimitsWrongFalsely : Prop := listsLimitsRow.holds Try.pinned (OpenSpec.ofChange listsLimitsWrong)

/-- 'corporalaw18.ListsMerges': WHATEVER THE INPUT: true; the input reads as it did. -/
def listsMergesSpec : ChangeSpec := { name := "listsMerges", fn := fun _ => fun
  | [d] => { results := [.lit (.bool true)], args := [d] }
  | _ => none }
def listsMergesRow : OpenClaim := { program := "ytjiijhbkbmnhbaa", sum := "e368b9c09666779ed38fbc48ed5c2ed59c44ab907ab7d60a7606b140215369f9", func := "corpora/corporalaw18.ListsMerges", spec := "listsMerges", unfollowed := true, recurses := true, apart := false }
def ListsMergesSaid : Prop := listsMergesRow.holds Try.pinned (OpenSpec.ofChange listsMergesSpec)

/-- ITS FALSE NEIGHBOUR: 'it returns false'. Refute it at one input. -/
def listsMergesWrong : ChangeSpec := { name := "listsMerges", fn := fun _ => fun
  | [d] => { results := [.lit (.bool false)], args := [d] }
  | _ => none }
def ListsMergesWrongFalsely : Prop := listsMergesRow.holds Try.pinned (OpenSpec.ofChange listsMergesWrong)

/-- 'corporalaw18.ListsPhrases': WHATEVER THE INPUT: true; the input reads as it did. -/
def listsPhrasesSpec : ChangeSpec := { name := "listsPhrases", fn := fun _ => fun
  | [d1, d2] => { results := [.lit (.bool true)], args := [d1, d2] }
  | _ => none }
def listsPhrasesRow : OpenClaim := { program := "ytjiijhbkbmnhbaa", sum := "e368b9c09666779ed38fbc48ed5c2ed59c44ab907ab7d60a7606b140215369f9", func := "corpora/corporalaw18.ListsPhrases", spec := "listsPhrases", unfollowed := true, recurses := true, apart := false }
def ListsPhrasesSaid : Prop := listsPhrasesRow.holds Try.pinned (OpenSpec.ofChange listsPhrasesSpec)

/-- ITS FALSE NEIGHBOUR: 'it returns false'. Refute it at one input. -/
def listsPhrasesWrong : ChangeSpec := { name := "listsPhrases", fn := fun _ => fun
  | [d1, d2] => { results := [.lit (.bool false)], args := [d1, d2] }
  | _ => none }
def ListsPhrasesWrongFalsely : Prop := listsPhrasesRow.holds Try.pinned (OpenSpec.ofChange listsPhrasesWrong)

/-- 'corporalaw18.ListsCombines': WHATEVER THE INPUT: true; the input reads as it did. -/
def listsCombinesSpec : ChangeSpec := { name := "listsCombines", fn := fun _ => fun
  | [d1, d2] => { results := [.lit (.bool true)], args := [d1, d2] }
  | _ => none }
def listsCombinesRow : OpenClaim := { program := "ytjiijhbkbmnhbaa", sum := "e368b9c09666779ed38fbc48ed5c2ed59c44ab907ab7d60a7606b140215369f9", func := "corpora/corporalaw18.ListsCombines", spec := "listsCombines", unfollowed := true, recurses := true, apart := false }
def ListsCombinesSaid : Prop := listsCombinesRow.holds Try.pinned (OpenSpec.ofChange listsCombinesSpec)

/-- ITS FALSE NEIGHBOUR: 'it returns false'. Refute it at one input. -/
def listsCombinesWrong : ChangeSpec := { name := "listsCombines", fn := fun _ => fun
  | [d1, d2] => { results := [.lit (.bool false)], args := [d1, d2] }
  | _ => none }
def ListsCombinesWrongFalsely : Prop := listsCombinesRow.holds Try.pinned (OpenSpec.ofChange listsCombinesWrong)

/-- 'corporalaw18.ListsBoolean': WHATEVER THE INPUT: true; the input reads as it did. -/
def listsBooleanSpec : ChangeSpec := { name := "listsBoolean", fn := fun _ => fun
  | [d1, d2, d3] => { results := [.lit (.bool true)], args := [d1, d2, d3] }
  | _ => none }
def listsBooleanRow : OpenClaim := { program := "ytjiijhbkbmnhbaa", sum := "e368b9c09666779ed38fbc48ed5c2ed59c44ab907ab7d60a7606b140215369f9", func := "corpora/corporalaw18.ListsBoolean", spec := "listsBoolean", unfollowed := true, recurses := true, apart := false }
def ListsBooleanSaid : Prop := listsBooleanRow.holds Try.pinned (OpenSpec.ofChange listsBooleanSpec)

/-- ITS FALSE NEIGHBOUR: 'it returns false'. Refute it at one input. -/
def listsBooleanWrong : ChangeSpec := { name := "listsBoolean", fn := fun _ => fun
  | [d1, d2, d3] => { results := [.lit (.bool false)], args := [d1, d2, d3] }
  | _ => none }
def ListsBooleanWrongFalsely : Prop := listsBooleanRow.holds Try.pinned (OpenSpec.ofChange listsBooleanWrong)

/-- 'corporalaw18.ListsShifts': WHATEVER THE INPUT: true; the input reads as it did. -/
def listsShiftsSpec : ChangeSpec := { name := "listsShifts", fn := fun _ => fun
  | [d1, d2, d3] => { results := [.lit (.bool true)], args := [d1, d2, d3] }
  | _ => none }
def listsShiftsRow : OpenClaim := { program := "ytjiijhbkbmnhbaa", sum := "e368b9c09666779ed38fbc48ed5c2ed59c44ab907ab7d60a7606b140215369f9", func := "corpora/corporalaw18.ListsShifts", spec := "listsShifts", unfollowed := true, recurses := true, apart := false }
def ListsShiftsSaid : Prop := listsShiftsRow.holds Try.pinned (OpenSpec.ofChange listsShiftsSpec)

/-- ITS FALSE NEIGHBOUR: 'it returns false'. Refute it at one input. -/
def listsShiftsWrong : ChangeSpec := { name := "listsShifts", fn := fun _ => fun
  | [d1, d2, d3] => { results := [.lit (.bool false)], args := [d1, d2, d3] }
  | _ => none }
def ListsShiftsWrongFalsely : Prop := listsShiftsRow.holds Try.pinned (OpenSpec.ofChange listsShiftsWrong)

/-- 'corporalaw18.ListsJoins': WHATEVER THE INPUT: true; the input reads as it did. -/
def listsJoinsSpec : ChangeSpec := { name := "listsJoins", fn := fun _ => fun
  | [d1, d2, d3] => { results := [.lit (.bool true)], args := [d1, d2, d3] }
  | _ => none }
def listsJoinsRow : OpenClaim := { program := "ytjiijhbkbmnhbaa", sum := "e368b9c09666779ed38fbc48ed5c2ed59c44ab907ab7d60a7606b140215369f9", func := "corpora/corporalaw18.ListsJoins", spec := "listsJoins", unfollowed := true, recurses := true, apart := false }
def ListsJoinsSaid : Prop := listsJoinsRow.holds Try.pinned (OpenSpec.ofChange listsJoinsSpec)

/-- ITS FALSE NEIGHBOUR: 'it returns false'. Refute it at one input. -/
def listsJoinsWrong : ChangeSpec := { name := "listsJoins", fn := fun _ => fun
  | [d1, d2, d3] => { results := [.lit (.bool false)], args := [d1, d2, d3] }
  | _ => none }
def ListsJoinsWrongFalsely : Prop := listsJoinsRow.holds Try.pinned (OpenSpec.ofChange listsJoinsWrong)

/-- 'corporalaw18.ListsPostings': WHATEVER THE INPUT: true; the input reads as it did. -/
def listsPostingsSpec : ChangeSpec := { name := "listsPostings", fn := fun _ => fun
  | [d1, d2] => { results := [.lit (.bool true)], args := [d1, d2] }
  | _ => none }
def listsPostingsRow : OpenClaim := { program := "ytjiijhbkbmnhbaa", sum := "e368b9c09666779ed38fbc48ed5c2ed59c44ab907ab7d60a7606b140215369f9", func := "corpora/corporalaw18.ListsPostings", spec := "listsPostings", unfollowed := true, recurses := true, apart := false }
def ListsPostingsSaid : Prop := listsPostingsRow.holds Try.pinned (OpenSpec.ofChange listsPostingsSpec)

/-- ITS FALSE NEIGHBOUR: 'it returns false'. Refute it at one input. -/
def listsPostingsWrong : ChangeSpec := { name := "listsPostings", fn := fun _ => fun
  | [d1, d2] => { results := [.lit (.bool false)], args := [d1, d2] }
  | _ => none }
def ListsPostingsWrongFalsely : Prop := listsPostingsRow.holds Try.pinned (OpenSpec.ofChange listsPostingsWrong)

/- THE SECOND FORM. 'bulk': how many values and letters a reading holds, each counted each time it is reached (what is shared counts as often as it is met; a slice's spare places count too). A statement '..UptoSaid' is the law's where the arguments, and the package variables that the reading takes, are together of bulk at most 1048576: NARROWER than '..Said'. Prove '..Said' where nothing that the law and all that it calls make is longer than what came in: it says more and counts as full. Else prove '..UptoSaid'. A law counts once. -/
mutual
def uptoBulk {H : Type} : DataW H → Nat
  | .lit (.string bytes) => bytes.length + 1
  | .lit _ => 1
  | .nil => 1
  | .ptr d => uptoBulk d + 1
  | .slice elems spare => uptoBulkAll elems + uptoBulkAll spare + 1
  | .agg parts => uptoBulkAll parts + 1
  | .iface _ d => uptoBulk d + 1
  | .map entries => uptoBulkEntries entries + 1
  | .held _ => 1
def uptoBulkAll {H : Type} : List (DataW H) → Nat
  | [] => 0
  | d :: r => uptoBulk d + uptoBulkAll r
def uptoBulkEntries {H : Type} : List (Lit × DataW H) → Nat
  | [] => 0
  | x :: r => uptoBulkEntry x + uptoBulkEntries r
def uptoBulkEntry {H : Type} : Lit × DataW H → Nat
  | (.string bytes, d) => bytes.length + uptoBulk d + 1
  | (_, d) => uptoBulk d + 1
 end
def uptoSmall : (H : Type) → List (DataW H) → Bool := fun _ ds => decide (uptoBulkAll ds ≤ 1048576)
def OpenSpec.upto (s : _root_.Go.ChangeSpec) : _root_.Go.OpenSpec := { _root_.Go.OpenSpec.ofChange s with cond := some uptoSmall }

/-- 'corporalaw18.ListsChecks', WHERE WHAT IT READS IS OF BULK AT MOST 1048576: true; the input reads as it did. -/
def listsChecksUptoRow : OpenClaim := { program := "ytjiijhbkbmnhbaa", sum := "e368b9c09666779ed38fbc48ed5c2ed59c44ab907ab7d60a7606b140215369f9", func := "corpora/corporalaw18.ListsChecks", spec := "listsChecks", unfollowed := true, recurses := true, apart := false, narrowed := true }
def ListsChecksUptoSaid : Prop := listsChecksUptoRow.holds Try.pinned (OpenSpec.upto listsChecksSpec)

/-- 'corporalaw18.ListsLimits', WHERE WHAT IT READS IS OF BULK AT MOST 1048576: true; the input reads as it did. -/
def listsLimitsUptoRow : OpenClaim := { program := "ytjiijhbkbmnhbaa", sum := "e368b9c09666779ed38fbc48ed5c2ed59c44ab907ab7d60a7606b140215369f9", func := "corpora/corporalaw18.ListsLimits", spec := "listsLimits", unfollowed := true, recurses := true, apart := false, narrowed := true }
def ListsLimitsUptoSaid : Prop := listsLimitsUptoRow.holds Try.pinned (OpenSpec.upto listsLimitsSpec)

/-- 'corporalaw18.ListsMerges', WHERE WHAT IT READS IS OF BULK AT MOST 1048576: true; the input reads as it did. -/
def listsMergesUptoRow : OpenClaim := { program := "ytjiijhbkbmnhbaa", sum := "e368b9c09666779ed38fbc48ed5c2ed59c44ab907ab7d60a7606b140215369f9", func := "corpora/corporalaw18.ListsMerges", spec := "listsMerges", unfollowed := true, recurses := true, apart := false, narrowed := true }
def ListsMergesUptoSaid : Prop := listsMergesUptoRow.holds Try.pinned (OpenSpec.upto listsMergesSpec)

/-- 'corporalaw18.ListsPhrases', WHERE WHAT IT READS IS OF BULK AT MOST 1048576: true; the input reads as it did. -/
def listsPhrasesUptoRow : OpenClaim := { program := "ytjiijhbkbmnhbaa", sum := "e368b9c09666779ed38fbc48ed5c2ed59c44ab907ab7d60a7606b140215369f9", func := "corpora/corporalaw18.ListsPhrases", spec := "listsPhrases", unfollowed := true, recurses := true, apart := false, narrowed := true }
def ListsPhrasesUptoSaid : Prop := listsPhrasesUptoRow.holds Try.pinned (OpenSpec.upto listsPhrasesSpec)

/-- 'corporalaw18.ListsCombines', WHERE WHAT IT READS IS OF BULK AT MOST 1048576: true; the input reads as it did. -/
def listsCombinesUptoRow : OpenClaim := { program := "ytjiijhbkbmnhbaa", sum := "e368b9c09666779ed38fbc48ed5c2ed59c44ab907ab7d60a7606b140215369f9", func := "corpora/corporalaw18.ListsCombines", spec := "listsCombines", unfollowed := true, recurses := true, apart := false, narrowed := true }
def ListsCombinesUptoSaid : Prop := listsCombinesUptoRow.holds Try.pinned (OpenSpec.upto listsCombinesSpec)

/-- 'corporalaw18.ListsBoolean', WHERE WHAT IT READS IS OF BULK AT MOST 1048576: true; the input reads as it did. -/
def listsBooleanUptoRow : OpenClaim := { program := "ytjiijhbkbmnhbaa", sum := "e368b9c09666779ed38fbc48ed5c2ed59c44ab907ab7d60a7606b140215369f9", func := "corpora/corporalaw18.ListsBoolean", spec := "listsBoolean", unfollowed := true, recurses := true, apart := false, narrowed := true }
def ListsBooleanUptoSaid : Prop := listsBooleanUptoRow.holds Try.pinned (OpenSpec.upto listsBooleanSpec)

/-- 'corporalaw18.ListsShifts', WHERE WHAT IT READS IS OF BULK AT MOST 1048576: true; the input reads as it did. -/
def listsShiftsUptoRow : OpenClaim := { program := "ytjiijhbkbmnhbaa", sum := "e368b9c09666779ed38fbc48ed5c2ed59c44ab907ab7d60a7606b140215369f9", func := "corpora/corporalaw18.ListsShifts", spec := "listsShifts", unfollowed := true, recurses := true, apart := false, narrowed := true }
def ListsShiftsUptoSaid : Prop := listsShiftsUptoRow.holds Try.pinned (OpenSpec.upto listsShiftsSpec)

/-- 'corporalaw18.ListsJoins', WHERE WHAT IT READS IS OF BULK AT MOST 1048576: true; the input reads as it did. -/
def listsJoinsUptoRow : OpenClaim := { program := "ytjiijhbkbmnhbaa", sum := "e368b9c09666779ed38fbc48ed5c2ed59c44ab907ab7d60a7606b140215369f9", func := "corpora/corporalaw18.ListsJoins", spec := "listsJoins", unfollowed := true, recurses := true, apart := false, narrowed := true }
def ListsJoinsUptoSaid : Prop := listsJoinsUptoRow.holds Try.pinned (OpenSpec.upto listsJoinsSpec)

/-- 'corporalaw18.ListsPostings', WHERE WHAT IT READS IS OF BULK AT MOST 1048576: true; the input reads as it did. -/
def listsPostingsUptoRow : OpenClaim := { program := "ytjiijhbkbmnhbaa", sum := "e368b9c09666779ed38fbc48ed5c2ed59c44ab907ab7d60a7606b140215369f9", func := "corpora/corporalaw18.ListsPostings", spec := "listsPostings", unfollowed := true, recurses := true, apart := false, narrowed := true }
def ListsPostingsUptoSaid : Prop := listsPostingsUptoRow.holds Try.pinned (OpenSpec.upto listsPostingsSpec)

end Rows
end Go.Proofs.Ytjiijhbkbmnhbaa
