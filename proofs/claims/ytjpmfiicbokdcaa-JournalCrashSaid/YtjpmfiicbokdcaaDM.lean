/- The plain model of a disk: what its functions compute. -/
import Derived.Test.YtjpmfiicbokdcaaDB
namespace Go.Proofs.Ytjpmfiicbokdcaa
set_option linter.unusedVariables false
def nameB (c : UInt8) : Bool := (97 ≤ c.toNat && c.toNat ≤ 122) || (65 ≤ c.toNat && c.toNat ≤ 90) || (48 ≤ c.toNat && c.toNat ≤ 57) || c.toNat == 46 || c.toNat == 45 || c.toNat == 95
def vName (s : List UInt8) : Bool := decide (1 ≤ s.length) && decide (s.length ≤ 40) && s.all nameB
def hasM (l : List Ent) (s : List UInt8) : Bool := l.any fun e => e.1 == s
/-- The inode of a name, or -1. -/
def inoM (l : List Ent) (s : List UInt8) : Int := match l.find? fun e => e.1 == s with | some e => e.2 | none => -1
def dropM (l : List Ent) (s : List UInt8) : List Ent := l.filter fun e => !(e.1 == s)
def insM (l : List Ent) (x : Ent) : List Ent := l.takeWhile (fun e => nlt e.1 x.1) ++ x :: l.dropWhile (fun e => nlt e.1 x.1)
def creM (ops : List DOp) : Nat := ops.countP fun o => o.1 == 1
/-- An operation of the directory: the directory and the error. -/
def stepM (l : List Ent) (o : DOp) (next : Int) : List Ent × Nat :=
  if o.1 = 1 then
    if o.2.2.1 ≠ [] ∨ o.2.2.2 ≠ [] then ([], 1) else if vName o.2.1 = false then ([], 4) else if hasM l o.2.1 then ([], 5) else (insM l (o.2.1, next), 0)
  else if o.1 = 4 then
    if o.2.2.2 ≠ [] then ([], 1) else if hasM l o.2.1 = false then ([], 11) else if vName o.2.2.1 = false then ([], 4) else if o.2.2.1 = o.2.1 then ([], 1) else (insM (dropM (dropM l o.2.1) o.2.2.1) (o.2.2.1, inoM l o.2.1), 0)
  else if o.1 = 5 then
    if o.2.2.1 ≠ [] ∨ o.2.2.2 ≠ [] then ([], 1) else if hasM l o.2.1 = false then ([], 11) else (dropM l o.2.1, 0)
  else ([], 1)
/-- Operations one after the other. -/
def repM : List Ent → Int → List DOp → Option (List Ent)
  | l, _, [] => some l
  | l, next, o :: os => if (stepM l o next).2 = 0 then repM (stepM l o next).1 (if o.1 = 1 then next + 1 else next) os else none
/-- A directory: names in order, inodes in range and different. -/
def dirM (n : Nat) (l : List Ent) : Bool := (l.all fun e => vName e.1 && decide (0 ≤ e.2) && decide (e.2 < n)) && decide (l.Pairwise fun e f => nlt e.1 f.1 = true) && decide (l.Pairwise fun e f => e.2 ≠ f.2)
def inodeM (d : Dsk) (first : Int) (i : Nat) (x : Ent) : Bool := (decide (first ≤ i) || (d.dir.any fun e => e.2 == (i : Int)) || (d.dur.any fun e => e.2 == (i : Int))) && decide (0 ≤ x.2) && decide (x.2 ≤ x.1.length) && decide (x.1.length ≤ 1048576)
def firstM (d : Dsk) : Int := d.inodes.length - creM d.ops
def validM (d : Dsk) : Bool := dirM d.inodes.length d.dir && dirM d.inodes.length d.dur && decide (0 ≤ firstM d) && (d.dur.all fun e => decide (e.2 < firstM d)) && (d.inodes.zipIdx.all fun p => inodeM d (firstM d) p.2 p.1) && decide (repM d.dur (firstM d) d.ops = some d.dir)
/-- The inodes that a directory has, in order, and where they go. -/
def usedM (dir : List Ent) (i : Nat) : Bool := dir.any fun e => e.2 == (i : Int)
def atM (dir : List Ent) (i : Nat) : Nat := (List.range i).countP (usedM dir)
def keptM (dir : List Ent) : Nat → List Ent → List Ent
  | _, [] => []
  | i, x :: l => if usedM dir i then x :: keptM dir (i + 1) l else keptM dir (i + 1) l
def movM (dir : List Ent) : List Ent := dir.map fun e => (e.1, ((atM dir e.2.toNat : Nat) : Int))
def setM (d : Dsk) : Dsk := ⟨keptM d.dir 0 d.inodes, movM d.dir, movM d.dir, []⟩
def fieldsM (o : DOp) : Bool :=
  if o.1 = 1 ∨ o.1 = 3 ∨ o.1 = 5 then o.2.2.1 == [] && o.2.2.2 == [] else if o.1 = 2 then o.2.2.1 == [] else if o.1 = 4 then o.2.2.2 == [] else if o.1 = 6 then o.2.1 == [] && o.2.2.1 == [] && o.2.2.2 == [] else false
/-- An operation of a valid disk. -/
def appM (d : Dsk) (o : DOp) : Dsk × Nat :=
  if fieldsM o = false then (.nil, 1)
  else if o.1 = 6 then (setM d, 0)
  else if o.1 = 2 ∨ o.1 = 3 then
    if hasM d.dir o.2.1 = false then (.nil, 11)
    else
      let i := (inoM d.dir o.2.1).toNat
      let x := d.inodes.getD i ([], 0)
      if o.1 = 3 then (⟨d.inodes.set i (x.1, (x.1.length : Int)), d.dir, d.dur, d.ops⟩, 0)
      else if 1048576 < x.1.length + o.2.2.2.length then (.nil, 21)
      else (⟨d.inodes.set i (x.1 ++ o.2.2.2, x.2), d.dir, d.dur, d.ops⟩, 0)
  else if (stepM d.dir o d.inodes.length).2 ≠ 0 then (.nil, (stepM d.dir o d.inodes.length).2)
  else (⟨if o.1 = 1 then d.inodes ++ [([], 0)] else d.inodes, (stepM d.dir o d.inodes.length).1, d.dur, d.ops ++ [o]⟩, 0)
def applyM (d : Dsk) (o : DOp) : Dsk × Nat := if validM d then appM d o else (.nil, 9)
end Go.Proofs.Ytjpmfiicbokdcaa
