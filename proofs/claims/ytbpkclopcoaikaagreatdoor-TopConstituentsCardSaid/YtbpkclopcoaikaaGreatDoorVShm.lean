/- strings.Cut, strings.Split, strings.HasPrefix: the shelf's contracts, laid. -/
import Derived.Shelf.Strings.Cut
import Derived.Shelf.Strings.Split
import Derived.Shelf.Strings.Prefix
import Derived.Test.YtbpkclopcoaikaaGreatDoorMg
namespace Go.Proofs.YtbpkclopcoaikaaGreatDoor
open Go.Shelf in
def Tryz.lays145_ren : Go.Shelf.Ren := ⟨fun | 145 => 39 | 220 => 61 | 219 => 90 | 217 => 109 | 225 => 110 | 224 => 111 | 267 => 112 | 266 => 122 | 314 => 123 | n => n, fun | 9 => 9 | 4 => 4 | 59 => 94 | 3 => 3 | 5 => 5 | 46 => 150 | 146 => 159 | 51 => 158 | n => n, fun | 1 => 0 | n => n⟩
open Go.Shelf in
theorem Tryz.lays145 : Go.Proofs.Lays.n145 Tryz.prog Tryz.lays145_ren := {
  mixed := by kernel_rfl
  f145 := Tryz.func39.trans (congrArg some (by kernel_rfl))
  f217 := Tryz.func109.trans (congrArg some (by kernel_rfl))
  f219 := Tryz.func90.trans (congrArg some (by kernel_rfl))
  f220 := Tryz.func61.trans (congrArg some (by kernel_rfl))
  f224 := Tryz.func111.trans (congrArg some (by kernel_rfl))
  f225 := Tryz.func110.trans (congrArg some (by kernel_rfl))
  f266 := Tryz.func122.trans (congrArg some (by kernel_rfl))
  f267 := Tryz.func112.trans (congrArg some (by kernel_rfl))
  f314 := Tryz.func123.trans (congrArg some (by kernel_rfl))
  t3 := Tryz.underlying3
  a3 := Tryz.isAgg3
  z3 := Tryz.sizeOf3
  v3 := Tryz.zeroValue3
  t4 := Tryz.underlying4
  a4 := Tryz.isAgg4
  z4 := Tryz.sizeOf4
  v4 := Tryz.zeroValue4
  t5 := Tryz.underlying5
  a5 := Tryz.isAgg5
  z5 := Tryz.sizeOf5
  v5 := Tryz.zeroValue5
  t9 := Tryz.underlying9
  a9 := Tryz.isAgg9
  z9 := Tryz.sizeOf9
  v9 := Tryz.zeroValue9
  t46 := Tryz.underlying150
  a46 := Tryz.isAgg150
  z46 := Tryz.sizeOf150
  v46 := Tryz.zeroValue150
  t51 := Tryz.underlying158
  a51 := Tryz.isAgg158
  z51 := Tryz.sizeOf158
  v51 := Tryz.zeroValue158
  t59 := Tryz.underlying94
  a59 := Tryz.isAgg94
  z59 := Tryz.sizeOf94
  v59 := Tryz.zeroValue94
  t146 := Tryz.underlying159
  a146 := Tryz.isAgg159
  z146 := Tryz.sizeOf159
  v146 := Tryz.zeroValue159
  g1 := by kernel_rfl }
open Go.Shelf in
def Tryz.lays146_ren : Go.Shelf.Ren := ⟨fun | 146 => 92 | 221 => 113 | 268 => 124 | 138 => 125 | 143 => 126 | 195 => 132 | 197 => 133 | 218 => 134 | 219 => 90 | 260 => 136 | 217 => 109 | 225 => 110 | 224 => 111 | 267 => 112 | 266 => 122 | 314 => 123 | n => n, fun | 9 => 9 | 31 => 28 | 3 => 3 | 4 => 4 | 0 => 0 | 105 => 152 | 21 => 21 | 5 => 5 | 46 => 150 | 119 => 173 | 139 => 176 | 138 => 175 | 146 => 159 | 51 => 158 | n => n, fun | 1 => 0 | 3 => 1 | 4 => 2 | n => n⟩
open Go.Shelf in
theorem Tryz.lays146 : Go.Proofs.Lays.n146 Tryz.prog Tryz.lays146_ren := {
  mixed := by kernel_rfl
  f138 := Tryz.func125.trans (congrArg some (by kernel_rfl))
  f143 := Tryz.func126.trans (congrArg some (by kernel_rfl))
  f146 := Tryz.func92.trans (congrArg some (by kernel_rfl))
  f195 := Tryz.func132.trans (congrArg some (by kernel_rfl))
  f197 := Tryz.func133.trans (congrArg some (by kernel_rfl))
  f217 := Tryz.func109.trans (congrArg some (by kernel_rfl))
  f218 := Tryz.func134.trans (congrArg some (by kernel_rfl))
  f219 := Tryz.func90.trans (congrArg some (by kernel_rfl))
  f221 := Tryz.func113.trans (congrArg some (by kernel_rfl))
  f224 := Tryz.func111.trans (congrArg some (by kernel_rfl))
  f225 := Tryz.func110.trans (congrArg some (by kernel_rfl))
  f260 := Tryz.func136.trans (congrArg some (by kernel_rfl))
  f266 := Tryz.func122.trans (congrArg some (by kernel_rfl))
  f267 := Tryz.func112.trans (congrArg some (by kernel_rfl))
  f268 := Tryz.func124.trans (congrArg some (by kernel_rfl))
  f314 := Tryz.func123.trans (congrArg some (by kernel_rfl))
  t0 := Tryz.underlying0
  a0 := Tryz.isAgg0
  z0 := Tryz.sizeOf0
  v0 := Tryz.zeroValue0
  t3 := Tryz.underlying3
  a3 := Tryz.isAgg3
  z3 := Tryz.sizeOf3
  v3 := Tryz.zeroValue3
  t4 := Tryz.underlying4
  a4 := Tryz.isAgg4
  z4 := Tryz.sizeOf4
  v4 := Tryz.zeroValue4
  t5 := Tryz.underlying5
  a5 := Tryz.isAgg5
  z5 := Tryz.sizeOf5
  v5 := Tryz.zeroValue5
  t9 := Tryz.underlying9
  a9 := Tryz.isAgg9
  z9 := Tryz.sizeOf9
  v9 := Tryz.zeroValue9
  t21 := Tryz.underlying21
  a21 := Tryz.isAgg21
  z21 := Tryz.sizeOf21
  v21 := Tryz.zeroValue21
  t31 := Tryz.underlying28
  a31 := Tryz.isAgg28
  z31 := Tryz.sizeOf28
  v31 := Tryz.zeroValue28
  t46 := Tryz.underlying150
  a46 := Tryz.isAgg150
  z46 := Tryz.sizeOf150
  v46 := Tryz.zeroValue150
  t51 := Tryz.underlying158
  a51 := Tryz.isAgg158
  z51 := Tryz.sizeOf158
  v51 := Tryz.zeroValue158
  t105 := Tryz.underlying152
  a105 := Tryz.isAgg152
  z105 := Tryz.sizeOf152
  v105 := Tryz.zeroValue152
  t119 := Tryz.underlying173
  a119 := Tryz.isAgg173
  z119 := Tryz.sizeOf173
  t138 := Tryz.underlying175
  a138 := Tryz.isAgg175
  z138 := Tryz.sizeOf175
  v138 := Tryz.zeroValue175
  t139 := Tryz.underlying176
  a139 := Tryz.isAgg176
  z139 := Tryz.sizeOf176
  v139 := Tryz.zeroValue176
  t146 := Tryz.underlying159
  a146 := Tryz.isAgg159
  z146 := Tryz.sizeOf159
  v146 := Tryz.zeroValue159
  g1 := by kernel_rfl
  g3 := by kernel_rfl
  g4 := by kernel_rfl }
open Go.Shelf in
def Tryz.lays99_ren : Go.Shelf.Ren := ⟨fun | 99 => 62 | 206 => 91 | n => n, fun | 9 => 9 | 4 => 4 | 3 => 3 | n => n, fun | n => n⟩
open Go.Shelf in
theorem Tryz.lays99 : Go.Proofs.Lays.n99 Tryz.prog Tryz.lays99_ren := {
  mixed := by kernel_rfl
  f99 := Tryz.func62.trans (congrArg some (by kernel_rfl))
  f206 := Tryz.func91.trans (congrArg some (by kernel_rfl))
  t3 := Tryz.underlying3
  a3 := Tryz.isAgg3
  z3 := Tryz.sizeOf3
  v3 := Tryz.zeroValue3
  t4 := Tryz.underlying4
  a4 := Tryz.isAgg4
  z4 := Tryz.sizeOf4
  v4 := Tryz.zeroValue4
  t9 := Tryz.underlying9
  a9 := Tryz.isAgg9
  z9 := Tryz.sizeOf9
  v9 := Tryz.zeroValue9 }
open Go.RowKit
set_option linter.unusedVariables false
set_option linter.unusedSimpArgs false
/-- The program's variable MaxLen holds a number. -/
def MaxL (w : World) : Prop := ∃ m : Int, w.cell? ⟨0, 0, none⟩ = some (.int .i64 m)
theorem MaxL.below {w w' : World} (h : MaxL w) (hb : Below w.heap.size w w') : MaxL w' := let ⟨m, h⟩ := h; ⟨m, (hb.cell (lt_heap h)).trans h⟩
theorem MaxL.belowG {g : Nat} {w w' : World} (h : MaxL w) (hb : Below g w w') (hg : 0 < g) : MaxL w' := let ⟨m, h⟩ := h; ⟨m, (hb.cell (p := ⟨0, 0, none⟩) hg).trans h⟩
theorem cut_any (s sep : List UInt8) (w : World) (hm : MaxL w) (hs : s.length ≤ 1000) (a b : List UInt8) (f : Bool) (hc : Lib.cut s sep = (a, b, f)) : Calls Tryz.prog 39 #[.string (bstr s), .string (bstr sep)] w fun e w' => e = .returned (.tuple #[.string (bstr a), .string (bstr b), .bool f]) ∧ Below w.heap.size w w' := by
  obtain ⟨m, hm⟩ := hm
  refine (Go.Proofs.Any.strings_Cut Tryz.lays145 (bstr s) (bstr sep) m w (by rw [bstr_size]; omega) hm).mono ?_
  rintro e w' ⟨rfl, n, rfl⟩
  refine ⟨?_, bl_drewN (bl_refl w) n⟩
  have e1 : (bstr s).data.toList = s := rfl
  have e2 : (bstr sep).data.toList = sep := rfl
  rw [e1, e2, hc]
  rfl
theorem prefix_any (s p : List UInt8) (w : World) (b : Bool) (hb : Lib.hasPrefix s p = b) : Calls Tryz.prog 62 #[.string (bstr s), .string (bstr p)] w fun e w' => e = .returned (.bool b) ∧ w = w' := by
  refine (Go.Proofs.Any.strings_HasPrefix Tryz.lays99 (bstr s) (bstr p) w).mono ?_
  rintro e w' ⟨rfl, rfl⟩
  have e1 : (bstr s).data.toList = s := rfl
  have e2 : (bstr p).data.toList = p := rfl
  rw [e1, e2, hb]
  exact ⟨rfl, rfl⟩
theorem split1_any (c : UInt8) (w : World) (hm : MaxL w) (hc : Lib.countB (bstr [c]) (bstr [9]) = 0) : Calls Tryz.prog 92 #[.string (bstr [c]), .string (bstr [9])] w fun e w' => e = .returned (.slice (some ⟨w.heap.size, 0, none⟩) 1 1) ∧ w' = w.alloc (.cells #[.string (bstr [c])] 9 (0, 0)) := by
  obtain ⟨m, hm⟩ := hm
  refine (Go.Proofs.Any.strings_Split Tryz.lays146 (by kernel_rfl) (bstr [c]) (bstr [9]) m w (by rw [bstr_size]; simp) hm (by rw [bstr_size]; simp)).mono ?_
  rintro e w' ⟨rfl, rfl⟩
  rw [hc]
  refine ⟨rfl, ?_⟩
  rw [Lib.splitB_zero]
  rfl
end Go.Proofs.YtbpkclopcoaikaaGreatDoor
