/- What the frames of the three Top laws share: the witness world, the variable MaxLen. -/
import Derived.Test.YtbpkclopcoaikaaGreatDoorWOm
import Derived.Test.YtbpkclopcoaikaaGreatDoorVShm
import Derived.Test.YtbpkclopcoaikaaGreatDoorCards
import Derived.Test.YtbpkclopcoaikaaGreatDoorTie
import Derived.WalkKit
import Derived.Shelf.LaysM
import Derived.ProofKit
import Derived.OpenShut
import Derived.Deep.DeepHandedRow
import Derived.Lib.LaidTab
import Derived.Lib.LaidU8
namespace Go.Proofs.YtbpkclopcoaikaaGreatDoor
open Go.ChangeShapes Go.WideShapes Go.ChangeAt Go.RowKit
set_option linter.unusedVariables false
theorem ownK : ownKnob Tryz.prog.godebug = none := by kernel_rfl
theorem laidOut : laidOutB Tryz.prog = true := by kernel_rfl
open Go.Shelf in
shelf_lay LaysM.n145 Nm 145 at Tryz as Tryz.laysM145
theorem maxl_of {W : World} (h : W.ShapedOpen Tryz.prog) : MaxL W := Tryz.laysM145.s1_3 W h
/-- A world for the witness: the two tables hold what their initialisers lay. -/
noncomputable def laidWorld (os : Os) : World :=
  let w0 := World.holding Tryz.prog os ⟨#[], #[], []⟩
  let put (h : Array Obj) (g : Nat) (cs : Array Value) : Array Obj := h.modify g fun
    | .cells _ t frozen => .cells cs t frozen
    | o => o
  { w0 with heap := put (put w0.heap 1 (Lib.firstTab.map fun z => Value.int .u8 z).toArray) 2 ((List.range 16).flatMap fun i => [Value.int .u8 (Lib.accLo i), Value.int .u8 (Lib.accHi i)]).toArray }
/-- The empty corpus. -/
abbrev corp0 : Value := .agg #[.slice none 0 0, .slice none 0 0, .slice none 0 0, .slice none 0 0, .slice none 0 0, .slice none 0 0, .slice none 0 0]
end Go.Proofs.YtbpkclopcoaikaaGreatDoor
