/- The walk of the law ChecksumChains. -/
import Derived.Test.YtgmljklgdokddaaCombW
namespace Go.Proofs.Ytgmljklgdokddaa
open Go.RowKit
set_option linter.unusedVariables false
set_option linter.unusedSimpArgs false

namespace checksumChains
set_option maxHeartbeats 1000000 in
set_option maxRecDepth 100000 in
theorem walk (x y z m n : Int) (w : World) (w0 : (Lit.int .u32 x).wf = true ∧ (Lit.int .u32 y).wf = true ∧ (Lit.int .u32 z).wf = true ∧ (Lit.int .u8 m).wf = true ∧ (Lit.int .u8 n).wf = true) :
    Calls Try.prog 10 #[.agg #[.int .u32 x, .int .u32 y, .int .u32 z, .int .u8 m, .int .u8 n]] w fun e w' => e = .returned (.bool true) ∧ Below w.heap.size w w' := by
  obtain ⟨h0, h1, h2, h3, h4⟩ := w0
  obtain ⟨x, rfl⟩ := u32_bv h0
  obtain ⟨y, rfl⟩ := u32_bv h1
  obtain ⟨z, rfl⟩ := u32_bv h2
  have hm := bounds_u8 h3
  have hn := bounds_u8 h4
  obtain ⟨i, rfl⟩ := Int.eq_ofNat_of_zero_le hm.1
  obtain ⟨j, rfl⟩ := Int.eq_ofNat_of_zero_le hn.1
  clear h0 h1 h2 h3 h4
  have ei : IntKind.i64.wrap (i : Int) = i := IntWalk.i64_in _ (by omega)
  have ej : IntKind.i64.wrap (j : Int) = j := IntWalk.i64_in _ (by omega)
  have eij : IntKind.i64.wrap ((i : Int) + j) = (i : Int) + j := IntWalk.i64_in _ (by omega)
  go_enter Try.func10, Try.ntmps10
  go_wp2_with fail
  generalize hB : w.alloc (.cells #[.int .u32 (x.toNat : Int), .int .u32 (y.toNat : Int), .int .u32 (z.toNat : Int), .int .u8 (i : Int), .int .u8 (j : Int)] 41) = W
  have hg : W.heap[w.heap.size]? = some (.cells #[.int .u32 (x.toNat : Int), .int .u32 (y.toNat : Int), .int .u32 (z.toNat : Int), .int .u8 (i : Int), .int .u8 (j : Int)] 41 (0, 0)) := by rw [← hB]; exact heap_alloc_new w _
  have hbW : Below w.heap.size w W := by rw [← hB]; exact bl_alloc (bl_refl w) _
  have hlt : w.heap.size < W.heap.size := (Array.getElem?_eq_some_iff.1 hg).1
  have f0 : ∀ wx, CB W wx → wx.cell? ⟨w.heap.size, 0, none⟩ = some (.int .u32 (x.toNat : Int)) := fun wx h => h.cell (cell_of_row W _ 0 _ _ _ hg)
  have f1 : ∀ wx, CB W wx → wx.cell? ⟨w.heap.size, 1, none⟩ = some (.int .u32 (y.toNat : Int)) := fun wx h => h.cell (cell_of_row W _ 1 _ _ _ hg)
  have f2 : ∀ wx, CB W wx → wx.cell? ⟨w.heap.size, 2, none⟩ = some (.int .u32 (z.toNat : Int)) := fun wx h => h.cell (cell_of_row W _ 2 _ _ _ hg)
  have f3 : ∀ wx, CB W wx → wx.cell? ⟨w.heap.size, 3, none⟩ = some (.int .u8 (i : Int)) := fun wx h => h.cell (cell_of_row W _ 3 _ _ _ hg)
  have f4 : ∀ wx, CB W wx → wx.cell? ⟨w.heap.size, 4, none⟩ = some (.int .u8 (j : Int)) := fun wx h => h.cell (cell_of_row W _ 4 _ _ _ hg)
  have HF := hide (And.intro f0 (And.intro f1 (And.intro f2 (And.intro f3 f4))))
  clear f0 f1 f2 f3 f4 hg hB
  refine wp_region_K 8 (by kernel_rfl) (by kernel_rfl) (fun Q HQ => ?_)
  simp only [List.take_succ_cons, List.take_zero, List.map_cons, List.map_nil]
  have f3 : ∀ wx, CB W.drew wx → wx.cell? ⟨w.heap.size, 3, none⟩ = some (.int .u8 (i : Int)) := fun wx h => HF.out.2.2.2.1 wx h.below
  have f4 : ∀ wx, CB W.drew wx → wx.cell? ⟨w.heap.size, 4, none⟩ = some (.int .u8 (j : Int)) := fun wx h => HF.out.2.2.2.2 wx h.below
  repeat
    first | apply wpS_c rfl | apply wpS_gc rfl (guard_mk rfl rfl)
    focus
      intro ev wx hC hx
      (try simp [Op.operands, Call.operands, opndS, Slot.holds] at hx)
      go_simp
      try (first | exact rfl | exact ⟨Below.refl _ _, rfl⟩)
      done
    dsimp only [setS, List.set]
  refine wpS_nil (HQ _ fun w1 hC1 => ?_)
  simp only [closeS, List.drop_succ_cons, List.drop_zero, List.drop_nil]
  clear HQ f3 f4
  have hb1 : CB W w1 := hC1.below
  go_wp2_with fail
  refine wp_region_K 11 (by kernel_rfl) (by kernel_rfl) (fun Q HQ => ?_)
  simp only [List.take_succ_cons, List.take_zero, List.map_cons, List.map_nil]
  have f0 : ∀ wx, CB w1.drew wx → wx.cell? ⟨w.heap.size, 0, none⟩ = some (.int .u32 (x.toNat : Int)) := fun wx h => HF.out.1 wx (hb1.step h.below)
  have f1 : ∀ wx, CB w1.drew wx → wx.cell? ⟨w.heap.size, 1, none⟩ = some (.int .u32 (y.toNat : Int)) := fun wx h => HF.out.2.1 wx (hb1.step h.below)
  have f2 : ∀ wx, CB w1.drew wx → wx.cell? ⟨w.heap.size, 2, none⟩ = some (.int .u32 (z.toNat : Int)) := fun wx h => HF.out.2.2.1 wx (hb1.step h.below)
  repeat
    first | apply wpS_c rfl | apply wpS_gc rfl (guard_mk rfl rfl)
    focus
      intro ev wx hC hx
      (try simp [Op.operands, Call.operands, opndS, Slot.holds] at hx)
      go_simp
      try (first | exact rfl | exact ⟨Below.refl _ _, rfl⟩)
      done
    dsimp only [setS, List.set]
  apply wpS_c rfl
  focus
    intro ev wx hC hx
    (try simp [Op.operands, Call.operands, opndS, Slot.holds] at hx)
    go_simp
    refine (comb_any x y _ _ _ i _ rfl rfl rfl (by omega)).mono ?_; rintro e w' ⟨rfl, hb⟩; exact ⟨rfl, hb⟩
  dsimp only [setS, List.set]
  repeat
    first | apply wpS_c rfl | apply wpS_gc rfl (guard_mk rfl rfl)
    focus
      intro ev wx hC hx
      (try simp [Op.operands, Call.operands, opndS, Slot.holds] at hx)
      go_simp
      try (first | exact rfl | exact ⟨Below.refl _ _, rfl⟩)
      done
    dsimp only [setS, List.set]
  apply wpS_c rfl
  focus
    intro ev wx hC hx
    (try simp [Op.operands, Call.operands, opndS, Slot.holds] at hx)
    go_simp
    refine (comb_any (comb x y i) z _ _ _ j _ rfl rfl rfl (by omega)).mono ?_; rintro e w' ⟨rfl, hb⟩; exact ⟨rfl, hb⟩
  dsimp only [setS, List.set]
  repeat
    first | apply wpS_c rfl | apply wpS_gc rfl (guard_mk rfl rfl)
    focus
      intro ev wx hC hx
      (try simp [Op.operands, Call.operands, opndS, Slot.holds] at hx)
      go_simp
      try (first | exact rfl | exact ⟨Below.refl _ _, rfl⟩)
      done
    dsimp only [setS, List.set]
  refine wpS_nil (HQ _ fun w2 hC2 => ?_)
  simp only [closeS, List.drop_succ_cons, List.drop_zero, List.drop_nil]
  clear HQ f0 f1 f2
  have hb2 : CB W w2 := hb1.step hC2.below
  go_wp2_with fail
  refine wp_region_K 13 (by kernel_rfl) (by kernel_rfl) (fun Q HQ => ?_)
  simp only [List.take_succ_cons, List.take_zero, List.map_cons, List.map_nil]
  have f0 : ∀ wx, CB w2.drew wx → wx.cell? ⟨w.heap.size, 0, none⟩ = some (.int .u32 (x.toNat : Int)) := fun wx h => HF.out.1 wx (hb2.step h.below)
  have f1 : ∀ wx, CB w2.drew wx → wx.cell? ⟨w.heap.size, 1, none⟩ = some (.int .u32 (y.toNat : Int)) := fun wx h => HF.out.2.1 wx (hb2.step h.below)
  have f2 : ∀ wx, CB w2.drew wx → wx.cell? ⟨w.heap.size, 2, none⟩ = some (.int .u32 (z.toNat : Int)) := fun wx h => HF.out.2.2.1 wx (hb2.step h.below)
  repeat
    first | apply wpS_c rfl | apply wpS_gc rfl (guard_mk rfl rfl)
    focus
      intro ev wx hC hx
      (try simp [Op.operands, Call.operands, opndS, Slot.holds] at hx)
      go_simp
      try (first | exact rfl | exact ⟨Below.refl _ _, rfl⟩)
      done
    dsimp only [setS, List.set]
  apply wpS_c rfl
  focus
    intro ev wx hC hx
    (try simp [Op.operands, Call.operands, opndS, Slot.holds] at hx)
    go_simp
    refine (comb_any y z _ _ _ j _ rfl rfl rfl (by omega)).mono ?_; rintro e w' ⟨rfl, hb⟩; exact ⟨rfl, hb⟩
  dsimp only [setS, List.set]
  repeat
    first | apply wpS_c rfl | apply wpS_gc rfl (guard_mk rfl rfl)
    focus
      intro ev wx hC hx
      (try simp [Op.operands, Call.operands, opndS, Slot.holds] at hx)
      go_simp
      try (first | exact rfl | exact ⟨Below.refl _ _, rfl⟩)
      done
    dsimp only [setS, List.set]
  apply wpS_c rfl
  focus
    intro ev wx hC hx
    (try simp [Op.operands, Call.operands, opndS, Slot.holds] at hx)
    go_simp
    refine (comb_any x (comb y z j) _ _ _ (i + j) _ rfl rfl (by simp) (by omega)).mono ?_; rintro e w' ⟨rfl, hb⟩; exact ⟨rfl, hb⟩
  dsimp only [setS, List.set]
  repeat
    first | apply wpS_c rfl | apply wpS_gc rfl (guard_mk rfl rfl)
    focus
      intro ev wx hC hx
      (try simp [Op.operands, Call.operands, opndS, Slot.holds] at hx)
      go_simp
      try (first | exact rfl | exact ⟨Below.refl _ _, rfl⟩)
      done
    dsimp only [setS, List.set]
  refine wpS_nil (HQ _ fun w3 hC3 => ?_)
  simp only [closeS, List.drop_succ_cons, List.drop_zero, List.drop_nil]
  clear HQ f0 f1 f2
  have hb3 : CB W w3 := hb2.step hC3.below
  rw [comb_chain]
  go_wp2_with fail
  refine (awake_any _).mono ?_
  rintro e w4 ⟨rfl, hb4⟩
  go_wp2_with fail
  go_ret
  exact ⟨rfl, bl_trans hbW (bl_trans hb3 hb4)⟩
end checksumChains
end Go.Proofs.Ytgmljklgdokddaa
