/- The walks of the Reader's methods. -/
import Derived.Test.YtbicpnhgokngeaaRd2W
namespace Go.Proofs.Ytbicpnhgokngeaa
open Go.RowKit
set_option linter.unusedVariables false
set_option linter.unusedSimpArgs false
/-- Only block g may have turned, at its position. -/
def RStep (base g : Nat) (L : List Bool) (w : World) (pos : Nat) (w' : World) : Prop := RdS w' base g L pos ∧ w'.heap.size = w.heap.size ∧ w'.os = w.os ∧ w'.tape = w.tape ∧ w'.output = w.output ∧ ∀ k, k ≠ g → w'.heap[k]? = w.heap[k]?
theorem RStep.refl {base g : Nat} {L : List Bool} {w : World} {pos : Nat} (h : RdS w base g L pos) : RStep base g L w pos w := ⟨h, rfl, rfl, rfl, rfl, fun _ _ => rfl⟩
theorem RStep.set {base g : Nat} {L : List Bool} {w : World} {pos pos' : Nat} (h : RdS w base g L pos) (hp : pos' ≤ L.length) : RStep base g L w pos' (w.setCell ⟨g, 2, none⟩ (.int .i64 (pos' : Int))) :=
  ⟨h.set hp, by simp [World.setCell], rfl, rfl, rfl, fun k hk => heap_setCell_other w ⟨g, 2, none⟩ k _ hk⟩
theorem RStep.below {base g : Nat} {L : List Bool} {w w' : World} {pos : Nat} (h : RStep base g L w pos w') (hg : base ≤ g) : Below base w w' :=
  ⟨h.2.2.1, h.2.2.2.1, h.2.2.2.2.1, by rw [h.2.1]; exact Nat.le_refl _, fun k hk => h.2.2.2.2.2 k (by omega)⟩
def tup2 (r : Nat × Nat × Nat) : Value := .tuple #[.int .u64 (r.1 : Int), .int .i64 (r.2.2 : Int)]
theorem cells_of_rd {w : World} {base g : Nat} {L : List Bool} {pos : Nat} (h : RdS w base g L pos) :
    w.cell? ⟨g, 1, none⟩ = some (.int .i64 (L.length : Int)) ∧ w.cell? ⟨g, 2, none⟩ = some (.int .i64 (pos : Int)) ∧ w.frozen? ⟨g, 2, none⟩ = false ∧ pos ≤ L.length ∧ L.length ≤ 100000 := by
  obtain ⟨A, m, c, p, h1, h2, h3, h4, h5, h6, h7, h8, h9⟩ := h
  exact ⟨cell_of_row w g 1 _ _ _ h1, cell_of_row w g 2 _ _ _ h1, frozen_of_row w g 2 _ _ h1, h8, h9⟩
end Go.Proofs.Ytbicpnhgokngeaa
