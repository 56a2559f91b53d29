/- The document's examples of blocks. -/
import Derived.Test.YtchcaidcohgjbaaKTopW
namespace Go.Proofs.Ytchcaidcohgjbaa
open Go.RowKit
set_option linter.unusedVariables false
set_option linter.unusedSimpArgs false
set_option maxRecDepth 100000 in
theorem awake_one : packM [1, 2, 3] = [3, 2, 0, 0x6c] := by kernel_rfl
set_option maxRecDepth 100000 in
theorem awake_two : packM [0, 0, 0, 0, 0, 0, 0, 0, 1] = [9, 0, 1, 9, 1] := by kernel_rfl
set_option maxRecDepth 100000 in
theorem awake_any (w : World) : Calls Try.prog 12 #[] w fun e w' => e = .returned (.bool true) ∧ Below w.heap.size w w' := by
  go_enter Try.func12, Try.ntmps12
  go_wp2_with fail
  refine (pack_any _ 3 3 [1, 2, 3] _ ⟨rfl, rd_lit w _ _ _⟩).mono ?_
  rintro e w1 ⟨v1, rfl, -, ho1, hb1⟩
  have ho := ho1 rfl
  rw [show packM (natsOf [1, 2, 3]) = [3, 2, 0, 0x6c] from awake_one] at ho
  rw [show chkV [1, 2, 3] = 0 from rfl]
  have HO1 := hide ho
  have HB1 := hide (show Below w.heap.size w w1 from bl_trans (bl_alloc (bl_refl w) _) hb1)
  clear ho ho1 hb1
  go_wp2_with fail
  refine (pack_any _ 9 9 [0, 0, 0, 0, 0, 0, 0, 0, 1] _ ⟨rfl, rd_lit w1 _ _ _⟩).mono ?_
  rintro e w2 ⟨v2, rfl, -, ho2, hb2⟩
  have ho := ho2 rfl
  rw [show packM (natsOf [0, 0, 0, 0, 0, 0, 0, 0, 1]) = [9, 0, 1, 9, 1] from awake_two] at ho
  rw [show chkV [0, 0, 0, 0, 0, 0, 0, 0, 1] = 0 from rfl]
  have hb12 := bl_trans (bl_alloc (bl_refl w1) _) hb2
  obtain ⟨y1, A1, c1, rfl, y2, r1, y3, y4⟩ := own_form (own_below HO1.out hb12)
  obtain ⟨z1, A2, c2, rfl, z2, r2, z3, z4⟩ := own_form ho
  have k1 := run_bytes_str (P := Try.prog) w2 28 9 5 A1 4 c1 [3, 2, 0, 0x6c] Try.underlying28 Try.underlying5 Try.underlying9 rfl r1
  have k2 := run_bytes_str (P := Try.prog) w2 28 9 5 A2 5 c2 [9, 0, 1, 9, 1] Try.underlying28 Try.underlying5 Try.underlying9 rfl r2
  have e1 : (bstr [3, 2, 0, 0x6c] == (⟨#[3, 2, 0, 108]⟩ : ByteArray)) = true := by decide
  have e2 : (bstr [9, 0, 1, 9, 1] == (⟨#[9, 0, 1, 9, 1]⟩ : ByteArray)) = true := by decide
  have HB2 := hide (bl_trans HB1.out hb12)
  clear ho ho2 hb2 hb12 y1 y2 y3 y4 z1 z2 z3 z4 r1 r2
  simp only [List.length_cons, List.length_nil, Nat.zero_add, Nat.reduceAdd]
  go_wp2
  go_ret
  exact ⟨rfl, HB2.out⟩
end Go.Proofs.Ytchcaidcohgjbaa
