/- Blocks of the call's own as lists of cells. -/
import Derived.Test.YtjpmfiicbokdcaaDB
namespace Go.Proofs.Ytjpmfiicbokdcaa
open Go.RowKit
set_option linter.unusedVariables false
/-- The block g has the cells cs. -/
def Blk (w : World) (g : Nat) (cs : List Value) (t : TypeId) : Prop := w.heap[g]? = some (.cells cs.toArray t (0, 0))
theorem Blk.lt {w : World} {g : Nat} {cs : List Value} {t : TypeId} (h : Blk w g cs t) : g < w.heap.size := (Array.getElem?_eq_some_iff.1 h).1
theorem Blk.cell {w : World} {g : Nat} {cs : List Value} {t : TypeId} (h : Blk w g cs t) {k : Nat} {v : Value} (hk : cs[k]? = some v) : w.cell? ⟨g, k, none⟩ = some v := by
  rw [cell_of_row w g k _ _ _ h]; simpa using hk
theorem Blk.fr {w : World} {g : Nat} {cs : List Value} {t : TypeId} (h : Blk w g cs t) (j : Nat) : w.frozen? ⟨g, j, none⟩ = false := by
  unfold Blk at h
  simp [World.frozen?, h]
theorem Blk.set {w : World} {g : Nat} {cs : List Value} {t : TypeId} (h : Blk w g cs t) (k : Nat) (v : Value) : Blk (w.setCell ⟨g, k, none⟩ v) g (cs.set k v) t := by
  unfold Blk at h ⊢
  simp [World.setCell, Array.getElem?_modify, h]
theorem Blk.setne {w : World} {g g' : Nat} {cs : List Value} {t : TypeId} (h : Blk w g cs t) (hne : g ≠ g') (k : Nat) (v : Value) : Blk (w.setCell ⟨g', k, none⟩ v) g cs t := by
  unfold Blk at h ⊢
  rw [← h]
  exact Go.RowKit.Below.heap_setCell w ⟨g', k, none⟩ v g hne
theorem Blk.below {w w' : World} {g : Nat} {cs : List Value} {t : TypeId} (h : Blk w g cs t) (hb : Below w.heap.size w w') : Blk w' g cs t := (hb.block g h.lt).trans h
theorem Blk.alloc {w : World} {g : Nat} {cs : List Value} {t : TypeId} (h : Blk w g cs t) (o : Obj) : Blk (w.alloc o) g cs t := h.below (bl_alloc (bl_refl w) o)
theorem Blk.drew {w : World} {g : Nat} {cs : List Value} {t : TypeId} (h : Blk w g cs t) : Blk w.drew g cs t := h
theorem Blk.grown {w w' : World} {g : Nat} {cs : List Value} {t : TypeId} {row : Option Nat} (h : Blk w g cs t) (hg : w.grownBy w' row) (hr : row ≠ some g) : Blk w' g cs t := (hg.block g h.lt (Ne.symm hr)).trans h
theorem Blk.new (w : World) (cs : List Value) (t : TypeId) : Blk (w.alloc (.cells cs.toArray t)) w.heap.size cs t := by
  unfold Blk
  exact heap_alloc_new w _
theorem Blk.newG {w : World} {g : Nat} (hg : g = w.heap.size) (cs : List Value) (t : TypeId) : Blk (w.alloc (.cells cs.toArray t)) g cs t := by
  subst hg; exact Blk.new w cs t
/-- A store into one's own block of one's own keeps what lies below. -/
theorem bl_setG {w wr : World} {B g : Nat} (h : Below B w wr) (hg : B ≤ g) (k : Nat) (v : Value) : Below B w (wr.setCell ⟨g, k, none⟩ v) := h.setCell (p := ⟨g, k, none⟩) hg v
theorem ownG_setne {w : World} {base size : Nat} {e : TypeId} {v : Value} {n : Nat} {xs : List Value} (h : w.ownsRow base e size v n xs) {g : Nat} (hg : v.ownBlock ≠ some g) (k : Nat) (u : Value) : (w.setCell ⟨g, k, none⟩ u).ownsRow base e size v n xs :=
  ownG_blocks h fun q hq => Go.RowKit.Below.heap_setCell w ⟨g, k, none⟩ u q (fun e => hg (by rw [hq, e]))
theorem ownG_setlt {w : World} {base size : Nat} {e : TypeId} {v : Value} {n : Nat} {xs : List Value} (h : w.ownsRow base e size v n xs) {g : Nat} (hg : g < base) (k : Nat) (u : Value) : (w.setCell ⟨g, k, none⟩ u).ownsRow base e size v n xs :=
  ownG_blocks h fun q hq => Go.RowKit.Below.heap_setCell w ⟨g, k, none⟩ u q (fun e => by have := (ownG_lt h hq).1; simp at e; omega)
theorem ownG_grown {w w' : World} {base size : Nat} {e : TypeId} {v : Value} {n : Nat} {xs : List Value} {row : Option Nat} (h : w.ownsRow base e size v n xs) (hg : w.grownBy w' row) (hr : ∀ q, v.ownBlock = some q → row ≠ some q) : w'.ownsRow base e size v n xs :=
  ownG_blocks h fun q hq => hg.block q (ownG_lt h hq).2 (Ne.symm (hr q hq))
end Go.Proofs.Ytjpmfiicbokdcaa
