/-
  No cell of these rows narrows 'for every input' (looked for: loops, veiled, ifaces, maps, wideKeys, modest, calm, conditions, laid).
  DERIVED. THE GIVEN ROWS OF THIS SEAT. 7 by the template 'for every input the law returns true; each argument reads behind the call as it read before'; 0 by the template 'total and deterministic' (their statements: YtnflffhmnbjelaaTotals.lean).
  GIVEN WITH THE SEED: the statements are not yours to turn. If you find one false, say at which input.
  Laid BY PROGRAM, IN A SANDBOX (cutbox-rows.mjs): the forced cells as the released guide's own fill.sh prints them over the translation cb8b08e462c07091… (all of the seat's roots in one cut). By AI agents, Wed Nov 11 2026. No macro, syntax, notation, axiom, sorry.
-/
import Derived.Test.YtnflffhmnbjelaaChecked
import GoSem.Claim
import GoSem.ClaimJoined
import GoSem.ClaimMapViews
import Derived.JoinedTies
import Derived.KernelRfl
namespace Go.Proofs.Ytnflffhmnbjelaa
/- THE CELL 'sum', in the pinned program and in every row, IS THE sha256 OF THE DUMP (.gsa) THAT YtnflffhmnbjelaaProg.lean LOADS. Nothing in Lean hashes anything: it is a label: what it is worth is what the hold of that sum in a sandbox is worth. -/
noncomputable def Try.pinned : Pinned := { name := "ytnflffhmnbjelaa", sum := "cb8b08e462c070911b1e354dbedad933fe1eb7a855156266de6bb81f6047f1a9", checked := Try.checked }
namespace Rows
def none {H : Type} : Left H := { results := [], args := [] }

/-- 'corporalaw17.PostingsSeeks': WHATEVER THE INPUT: true; the input reads as it did. -/
def postingsSeeksSpec : ChangeSpec := { name := "postingsSeeks", fn := fun _ => fun
  | [d1, d2] => { results := [.lit (.bool true)], args := [d1, d2] }
  | _ => none }
def postingsSeeksRow : OpenClaim := { program := "ytnflffhmnbjelaa", sum := "cb8b08e462c070911b1e354dbedad933fe1eb7a855156266de6bb81f6047f1a9", func := "corpora/corporalaw17.PostingsSeeks", spec := "postingsSeeks", unfollowed := true, recurses := true, apart := false }
def PostingsSeeksSaid : Prop := postingsSeeksRow.holds Try.pinned (OpenSpec.ofChange postingsSeeksSpec)

/-- ITS FALSE NEIGHBOUR: 'it returns false'. Refute it at one input. -/
def postingsSeeksWrong : ChangeSpec := { name := "postingsSeeks", fn := fun _ => fun
  | [d1, d2] => { results := [.lit (.bool false)], args := [d1, d2] }
  | _ => none }
def PostingsSeeksWrongFalsely : Prop := postingsSeeksRow.holds Try.pinned (OpenSpec.ofChange postingsSeeksWrong)

/-- 'corporalaw17.PostingsLimits': WHATEVER THE INPUT: true; the input reads as it did. -/
def postingsLimitsSpec : ChangeSpec := { name := "postingsLimits", fn := fun _ => fun
  | [d1, d2] => { results := [.lit (.bool true)], args := [d1, d2] }
  | _ => none }
def postingsLimitsRow : OpenClaim := { program := "ytnflffhmnbjelaa", sum := "cb8b08e462c070911b1e354dbedad933fe1eb7a855156266de6bb81f6047f1a9", func := "corpora/corporalaw17.PostingsLimits", spec := "postingsLimits", unfollowed := true, recurses := true, apart := false }
def PostingsLimitsSaid : Prop := postingsLimitsRow.holds Try.pinned (OpenSpec.ofChange postingsLimitsSpec)

/-- ITS FALSE NEIGHBOUR: 'it returns false'. Refute it at one input. -/
def postingsLimitsWrong : ChangeSpec := { name := "postingsLimits", fn := fun _ => fun
  | [d1, d2] => { results := [.lit (.bool false)], args := [d1, d2] }
  | _ => none }
def PostingsLimitsWrongFalsely : Prop := postingsLimitsRow.holds Try.pinned (OpenSpec.ofChange postingsLimitsWrong)

/-- 'corporalaw17.PostingsReads': WHATEVER THE INPUT: true; the input reads as it did. -/
def postingsReadsSpec : ChangeSpec := { name := "postingsReads", fn := fun _ => fun
  | [d1, d2] => { results := [.lit (.bool true)], args := [d1, d2] }
  | _ => none }
def postingsReadsRow : OpenClaim := { program := "ytnflffhmnbjelaa", sum := "cb8b08e462c070911b1e354dbedad933fe1eb7a855156266de6bb81f6047f1a9", func := "corpora/corporalaw17.PostingsReads", spec := "postingsReads", unfollowed := true, recurses := true, apart := false }
def PostingsReadsSaid : Prop := postingsReadsRow.holds Try.pinned (OpenSpec.ofChange postingsReadsSpec)

/-- ITS FALSE NEIGHBOUR: 'it returns false'. Refute it at one input. -/
def postingsReadsWrong : ChangeSpec := { name := "postingsReads", fn := fun _ => fun
  | [d1, d2] => { results := [.lit (.bool false)], args := [d1, d2] }
  | _ => none }
def PostingsReadsWrongFalsely : Prop := postingsReadsRow.holds Try.pinned (OpenSpec.ofChange postingsReadsWrong)

/-- 'corporalaw17.PostingsWalks': WHATEVER THE INPUT: true; the input reads as it did. -/
def postingsWalksSpec : ChangeSpec := { name := "postingsWalks", fn := fun _ => fun
  | [d] => { results := [.lit (.bool true)], args := [d] }
  | _ => none }
def postingsWalksRow : OpenClaim := { program := "ytnflffhmnbjelaa", sum := "cb8b08e462c070911b1e354dbedad933fe1eb7a855156266de6bb81f6047f1a9", func := "corpora/corporalaw17.PostingsWalks", spec := "postingsWalks", unfollowed := true, recurses := true, apart := false }
def PostingsWalksSaid : Prop := postingsWalksRow.holds Try.pinned (OpenSpec.ofChange postingsWalksSpec)

/-- ITS FALSE NEIGHBOUR: 'it returns false'. Refute it at one input. -/
def postingsWalksWrong : ChangeSpec := { name := "postingsWalks", fn := fun _ => fun
  | [d] => { results := [.lit (.bool false)], args := [d] }
  | _ => none }
def PostingsWalksWrongFalsely : Prop := postingsWalksRow.holds Try.pinned (OpenSpec.ofChange postingsWalksWrong)

/-- 'corporalaw17.PostingsBuilds': WHATEVER THE INPUT: true; the input reads as it did. -/
def postingsBuildsSpec : ChangeSpec := { name := "postingsBuilds", fn := fun _ => fun
  | [d] => { results := [.lit (.bool true)], args := [d] }
  | _ => none }
def postingsBuildsRow : OpenClaim := { program := "ytnflffhmnbjelaa", sum := "cb8b08e462c070911b1e354dbedad933fe1eb7a855156266de6bb81f6047f1a9", func := "corpora/corporalaw17.PostingsBuilds", spec := "postingsBuilds", unfollowed := true, recurses := true, apart := false }
def PostingsBuildsSaid : Prop := postingsBuildsRow.holds Try.pinned (OpenSpec.ofChange postingsBuildsSpec)

/-- ITS FALSE NEIGHBOUR: 'it returns false'. Refute it at one input. -/
def postingsBuildsWrong : ChangeSpec := { name := "postingsBuilds", fn := fun _ => fun
  | [d] => { results := [.lit (.bool false)], args := [d] }
  | _ => none }
def PostingsBuildsWrongFalsely : Prop := postingsBuildsRow.holds Try.pinned (OpenSpec.ofChange postingsBuildsWrong)

/-- 'corporalaw17.PostingsEncodes': WHATEVER THE INPUT: true; the input reads as it did. -/
def postingsEncodesSpec : ChangeSpec := { name := "postingsEncodes", fn := fun _ => fun
  | [d1, d2] => { results := [.lit (.bool true)], args := [d1, d2] }
  | _ => none }
def postingsEncodesRow : OpenClaim := { program := "ytnflffhmnbjelaa", sum := "cb8b08e462c070911b1e354dbedad933fe1eb7a855156266de6bb81f6047f1a9", func := "corpora/corporalaw17.PostingsEncodes", spec := "postingsEncodes", unfollowed := true, recurses := true, apart := false }
def PostingsEncodesSaid : Prop := postingsEncodesRow.holds Try.pinned (OpenSpec.ofChange postingsEncodesSpec)

/-- ITS FALSE NEIGHBOUR: 'it returns false'. Refute it at one input. -/
def postingsEncodesWrong : ChangeSpec := { name := "postingsEncodes", fn := fun _ => fun
  | [d1, d2] => { results := [.lit (.bool false)], args := [d1, d2] }
  | _ => none }
def PostingsEncodesWrongFalsely : Prop := postingsEncodesRow.holds Try.pinned (OpenSpec.ofChange postingsEncodesWrong)

/-- 'corporalaw17.PostingsDecodes': WHATEVER THE INPUT: true; the input reads as it did. -/
def postingsDecodesSpec : ChangeSpec := { name := "postingsDecodes", fn := fun _ => fun
  | [d] => { results := [.lit (.bool true)], args := [d] }
  | _ => none }
def postingsDecodesRow : OpenClaim := { program := "ytnflffhmnbjelaa", sum := "cb8b08e462c070911b1e354dbedad933fe1eb7a855156266de6bb81f6047f1a9", func := "corpora/corporalaw17.PostingsDecodes", spec := "postingsDecodes", unfollowed := true, recurses := true, apart := false }
def PostingsDecodesSaid : Prop := postingsDecodesRow.holds Try.pinned (OpenSpec.ofChange postingsDecodesSpec)

/-- ITS FALSE NEIGHBOUR: 'it returns false'. Refute it at one input. -/
def postingsDecodesWrong : ChangeSpec := { name := "postingsDecodes", fn := fun _ => fun
  | [d] => { results := [.lit (.bool false)], args := [d] }
  | _ => none }
def PostingsDecodesWrongFalsely : Prop := postingsDecodesRow.holds Try.pinned (OpenSpec.ofChange postingsDecodesWrong)

/- THE SECOND FORM. 'bulk': how many values and letters a reading holds, each counted each time it is reached (what is shared counts as often as it is met; a slice's spare places count too). A statement '..UptoSaid' is the law's where the arguments, and the package variables that the reading takes, are together of bulk at most 1048576: NARROWER than '..Said'. Prove '..Said' where nothing that the law and all that it calls make is longer than what came in: it says more and counts as full. Else prove '..UptoSaid'. A law counts once. -/
mutual
def uptoBulk {H : Type} : DataW H → Nat
  | .lit (.string bytes) => bytes.length + 1
  | .lit _ => 1
  | .nil => 1
  | .ptr d => uptoBulk d + 1
  | .slice elems spare => uptoBulkAll elems + uptoBulkAll spare + 1
  | .agg parts => uptoBulkAll parts + 1
  | .iface _ d => uptoBulk d + 1
  | .map entries => uptoBulkEntries entries + 1
  | .held _ => 1
def uptoBulkAll {H : Type} : List (DataW H) → Nat
  | [] => 0
  | d :: r => uptoBulk d + uptoBulkAll r
def uptoBulkEntries {H : Type} : List (Lit × DataW H) → Nat
  | [] => 0
  | x :: r => uptoBulkEntry x + uptoBulkEntries r
def uptoBulkEntry {H : Type} : Lit × DataW H → Nat
  | (.string bytes, d) => bytes.length + uptoBulk d + 1
  | (_, d) => uptoBulk d + 1
 end
def uptoSmall : (H : Type) → List (DataW H) → Bool := fun _ ds => decide (uptoBulkAll ds ≤ 1048576)
def OpenSpec.upto (s : _root_.Go.ChangeSpec) : _root_.Go.OpenSpec := { _root_.Go.OpenSpec.ofChange s with cond := some uptoSmall }

/-- 'corporalaw17.PostingsSeeks', WHERE WHAT IT READS IS OF BULK AT MOST 1048576: true; the input reads as it did. -/
def postingsSeeksUptoRow : OpenClaim := { program := "ytnflffhmnbjelaa", sum := "cb8b08e462c070911b1e354dbedad933fe1eb7a855156266de6bb81f6047f1a9", func := "corpora/corporalaw17.PostingsSeeks", spec := "postingsSeeks", unfollowed := true, recurses := true, apart := false, narrowed := true }
def PostingsSeeksUptoSaid : Prop := postingsSeeksUptoRow.holds Try.pinned (OpenSpec.upto postingsSeeksSpec)

/-- 'corporalaw17.PostingsLimits', WHERE WHAT IT READS IS OF BULK AT MOST 1048576: true; the input reads as it did. -/
def postingsLimitsUptoRow : OpenClaim := { program := "ytnflffhmnbjelaa", sum := "cb8b08e462c070911b1e354dbedad933fe1eb7a855156266de6bb81f6047f1a9", func := "corpora/corporalaw17.PostingsLimits", spec := "postingsLimits", unfollowed := true, recurses := true, apart := false, narrowed := true }
def PostingsLimitsUptoSaid : Prop := postingsLimitsUptoRow.holds Try.pinned (OpenSpec.upto postingsLimitsSpec)

/-- 'corporalaw17.PostingsReads', WHERE WHAT IT READS IS OF BULK AT MOST 1048576: true; the input reads as it did. -/
def postingsReadsUptoRow : OpenClaim := { program := "ytnflffhmnbjelaa", sum := "cb8b08e462c070911b1e354dbedad933fe1eb7a855156266de6bb81f6047f1a9", func := "corpora/corporalaw17.PostingsReads", spec := "postingsReads", unfollowed := true, recurses := true, apart := false, narrowed := true }
def PostingsReadsUptoSaid : Prop := postingsReadsUptoRow.holds Try.pinned (OpenSpec.upto postingsReadsSpec)

/-- 'corporalaw17.PostingsWalks', WHERE WHAT IT READS IS OF BULK AT MOST 1048576: true; the input reads as it did. -/
def postingsWalksUptoRow : OpenClaim := { program := "ytnflffhmnbjelaa", sum := "cb8b08e462c070911b1e354dbedad933fe1eb7a855156266de6bb81f6047f1a9", func := "corpora/corporalaw17.PostingsWalks", spec := "postingsWalks", unfollowed := true, recurses := true, apart := false, narrowed := true }
def PostingsWalksUptoSaid : Prop := postingsWalksUptoRow.holds Try.pinned (OpenSpec.upto postingsWalksSpec)

/-- 'corporalaw17.PostingsBuilds', WHERE WHAT IT READS IS OF BULK AT MOST 1048576: true; the input reads as it did. -/
def postingsBuildsUptoRow : OpenClaim := { program := "ytnflffhmnbjelaa", sum := "cb8b08e462c070911b1e354dbedad933fe1eb7a855156266de6bb81f6047f1a9", func := "corpora/corporalaw17.PostingsBuilds", spec := "postingsBuilds", unfollowed := true, recurses := true, apart := false, narrowed := true }
def PostingsBuildsUptoSaid : Prop := postingsBuildsUptoRow.holds Try.pinned (OpenSpec.upto postingsBuildsSpec)

/-- 'corporalaw17.PostingsEncodes', WHERE WHAT IT READS IS OF BULK AT MOST 1048576: true; the input reads as it did. -/
def postingsEncodesUptoRow : OpenClaim := { program := "ytnflffhmnbjelaa", sum := "cb8b08e462c070911b1e354dbedad933fe1eb7a855156266de6bb81f6047f1a9", func := "corpora/corporalaw17.PostingsEncodes", spec := "postingsEncodes", unfollowed := true, recurses := true, apart := false, narrowed := true }
def PostingsEncodesUptoSaid : Prop := postingsEncodesUptoRow.holds Try.pinned (OpenSpec.upto postingsEncodesSpec)

/-- 'corporalaw17.PostingsDecodes', WHERE WHAT IT READS IS OF BULK AT MOST 1048576: true; the input reads as it did. -/
def postingsDecodesUptoRow : OpenClaim := { program := "ytnflffhmnbjelaa", sum := "cb8b08e462c070911b1e354dbedad933fe1eb7a855156266de6bb81f6047f1a9", func := "corpora/corporalaw17.PostingsDecodes", spec := "postingsDecodes", unfollowed := true, recurses := true, apart := false, narrowed := true }
def PostingsDecodesUptoSaid : Prop := postingsDecodesUptoRow.holds Try.pinned (OpenSpec.upto postingsDecodesSpec)

end Rows
end Go.Proofs.Ytnflffhmnbjelaa
