/- strings.Cut, strings.Split, strings.HasPrefix: the shelf's contracts, laid. -/
import Derived.Shelf.Lay
import Derived.Shelf.LaySoft
import Derived.Shelf.Strings.Cut
import Derived.Shelf.Strings.Split
import Derived.Shelf.Strings.Prefix
import Derived.Test.YtbpkclopcoaikaaGreatDoorMg
namespace Go.Proofs.YtbpkclopcoaikaaGreatDoor
open Go.Shelf in
shelf_lay Lays.n145 Nm 145 at Tryz as Tryz.lays145
open Go.Shelf in
shelf_lay Lays.n146 Nm 146 at Tryz as Tryz.lays146
open Go.Shelf in
shelf_lay Lays.n99 Nm 99 at Tryz as Tryz.lays99
open Go.RowKit
set_option linter.unusedVariables false
set_option linter.unusedSimpArgs false
/-- The program's variable MaxLen holds a number. -/
def MaxL (w : World) : Prop := ∃ m : Int, w.cell? ⟨0, 0, none⟩ = some (.int .i64 m)
theorem MaxL.below {w w' : World} (h : MaxL w) (hb : Below w.heap.size w w') : MaxL w' := let ⟨m, h⟩ := h; ⟨m, (hb.cell (lt_heap h)).trans h⟩
theorem MaxL.belowG {g : Nat} {w w' : World} (h : MaxL w) (hb : Below g w w') (hg : 0 < g) : MaxL w' := let ⟨m, h⟩ := h; ⟨m, (hb.cell (p := ⟨0, 0, none⟩) hg).trans h⟩
theorem cut_any (s sep : List UInt8) (w : World) (hm : MaxL w) (hs : s.length ≤ 1000) (a b : List UInt8) (f : Bool) (hc : Lib.cut s sep = (a, b, f)) : Calls Tryz.prog 39 #[.string (bstr s), .string (bstr sep)] w fun e w' => e = .returned (.tuple #[.string (bstr a), .string (bstr b), .bool f]) ∧ Below w.heap.size w w' := by
  obtain ⟨m, hm⟩ := hm
  refine (Go.Proofs.Any.strings_Cut Tryz.lays145 (bstr s) (bstr sep) m w (by rw [bstr_size]; omega) hm).mono ?_
  rintro e w' ⟨rfl, n, rfl⟩
  refine ⟨?_, bl_drewN (bl_refl w) n⟩
  have e1 : (bstr s).data.toList = s := rfl
  have e2 : (bstr sep).data.toList = sep := rfl
  rw [e1, e2, hc]
  rfl
theorem prefix_any (s p : List UInt8) (w : World) (b : Bool) (hb : Lib.hasPrefix s p = b) : Calls Tryz.prog 62 #[.string (bstr s), .string (bstr p)] w fun e w' => e = .returned (.bool b) ∧ w = w' := by
  refine (Go.Proofs.Any.strings_HasPrefix Tryz.lays99 (bstr s) (bstr p) w).mono ?_
  rintro e w' ⟨rfl, rfl⟩
  have e1 : (bstr s).data.toList = s := rfl
  have e2 : (bstr p).data.toList = p := rfl
  rw [e1, e2, hb]
  exact ⟨rfl, rfl⟩
theorem split1_any (c : UInt8) (w : World) (hm : MaxL w) (hc : Lib.countB (bstr [c]) (bstr [9]) = 0) : Calls Tryz.prog 92 #[.string (bstr [c]), .string (bstr [9])] w fun e w' => e = .returned (.slice (some ⟨w.heap.size, 0, none⟩) 1 1) ∧ w' = w.alloc (.cells #[.string (bstr [c])] 9 (0, 0)) := by
  obtain ⟨m, hm⟩ := hm
  refine (Go.Proofs.Any.strings_Split Tryz.lays146 (by kernel_rfl) (bstr [c]) (bstr [9]) m w (by rw [bstr_size]; simp) hm (by rw [bstr_size]; simp)).mono ?_
  rintro e w' ⟨rfl, rfl⟩
  rw [hc]
  refine ⟨rfl, ?_⟩
  rw [Lib.splitB_zero]
  rfl
end Go.Proofs.YtbpkclopcoaikaaGreatDoor
