/- The walk of awake: the example is read, and valid. -/
import Derived.Test.YtbpkclopcoaikaaGreatDoorVyWm
namespace Go.Proofs.YtbpkclopcoaikaaGreatDoor
open Go.RowKit
set_option linter.unusedVariables false
set_option linter.unusedSimpArgs false
set_option maxHeartbeats 8000000 in
set_option maxRecDepth 100000 in
theorem awake_any (w : World) (hm : MaxL w) : Calls Tryz.prog 9 #[] w fun e w' => e = .returned (.bool true) ∧ Below w.heap.size w w' := by
  have HVP : Hid (∀ wx cp, MaxL wx → 1 ≤ cp → ∀ a, Rd wx a [.string (bstr [119, 111, 114, 100]), .bool false] → Calls Tryz.prog 27 #[.string ⟨#[60, 116, 101, 120, 116, 32, 105, 100, 61, 34, 116, 34, 62, 10, 60, 115, 62, 10, 97, 10, 60, 47, 115, 62, 10, 98, 10, 60, 47, 116, 101, 120, 116, 62, 10]⟩, .slice a 1 cp] wx (ParP wx)) := hide (fun wx cp h1 h2 a h3 => vparse_any a cp wx h2 h3 h1)
  have HRL := hide (rd_lit w #[.string ⟨#[119, 111, 114, 100]⟩, .bool false] 71 (0, 0))
  have HB0 := hide (bl_alloc (bl_refl w) (.cells #[.string ⟨#[119, 111, 114, 100]⟩, .bool false] 71 (0, 0)))
  have HM0 := hide (hm.below HB0.out)
  clear hm
  go_enter Tryz.func9, Tryz.ntmps9
  go_wp2_with fail
  refine (HVP.out _ _ HM0.out (Nat.le_refl _) _ HRL.out).mono ?_
  rintro e w1 ⟨c, rfl, hb1, hd⟩
  have HB1 := hide (HB0.out.trans (hb1.mono HB0.out.size))
  clear hb1
  obtain ⟨W2, hW2⟩ : ∃ W2, W2 = (w1.alloc c.o).alloc (.cells #[.int .i64 0, .int .i64 0] 67 (0, 0)) := ⟨_, rfl⟩
  have HW2 := hide hW2
  have HX2 : Hid (Below w1.heap.size w1 W2) := hide (by rw [hW2]; exact bl_alloc (bl_alloc (bl_refl w1) _) _)
  have HC2 : Hid (CCells W2 w1.heap.size c) := hide (by rw [hW2]; exact (CCells.new w1 c).below (bl_alloc (bl_refl _) _))
  have HP2 : Hid (Blk W2 (w1.heap.size + 1) [.int .i64 0, .int .i64 0] 67) := hide (by rw [hW2]; exact Blk.newG (by simp) _ _)
  have HV : Hid (∀ wx, Below w1.heap.size w1 wx → Calls Tryz.prog 28 #[c.v] wx (ValOK wx)) := hide (fun wx hx =>
    cvalid_any c wx
      (fun wy hy => attrs1_any c [119, 111, 114, 100] wy hd.A.1 (by rw [hd.A.1]; exact hd.A.2.1) ((hd.A.2.2.below hx).below hy) (by decide))
      (fun wy hy => ctokens_any c [119, 111, 114, 100] [97, 98] wy hd.A.1 ((hd.A.2.2.below hx).below hy) hd.T.1 (by decide) ((hd.T.2.below hx).below hy))
      (fun wy hy => texts1_any c wy hd.X.1 ((hd.X.2.below hx).below hy) hd.T.1)
      (fun wy hy => regions1_any c wy hd.R.1 ((hd.R.2.below hx).below hy) hd.X.1 ((hd.X.2.below hx).below hy))
      (fun wy hy => nodes0_any c wy (by rw [hd.N])) (fun wy hy => heads0_any c wy hd.H (by rw [hd.L])))
  have HR := hide hd.R.2
  obtain ⟨⟨a1, -, -⟩, ⟨t1, -⟩, ⟨x1, -⟩, ⟨r1, -⟩, n1, h1, l1⟩ := hd
  clear hW2
  obtain ⟨⟨aa, an, ac⟩, ⟨ta, tn, tc⟩, ⟨xa, xn, xc⟩, ⟨ra, rn, rc⟩, N, H, L⟩ := c
  simp only at a1 t1 x1 r1 n1 h1 l1 HR
  subst a1 t1 x1 r1 n1 h1 l1
  obtain ⟨s0, s1, s2, s3, s4, s5, s6⟩ := (CCells.new w1 (Cv.mk ⟨aa, 1, ac⟩ ⟨ta, 2, tc⟩ ⟨xa, 1, xc⟩ ⟨ra, 1, rc⟩ ⟨none, 0, 0⟩ ⟨none, 0, 0⟩ ⟨none, 0, 0⟩)).below (bl_alloc (bl_refl _) (.cells #[.int .i64 0, .int .i64 0] 67 (0, 0)))
  go_wp2_with fail
  clear s0 s1 s2 s3 s4 s5 s6
  rw [← HW2.out]
  refine (HV.out _ HX2.out).mono ?_
  rintro e w3 ⟨rfl, hb3⟩
  have HX3 := hide (HX2.out.trans (hb3.mono HX2.out.size))
  have HB3 := hide (HB1.out.trans (HX3.out.mono HB1.out.size))
  obtain ⟨s0, s1, s2, s3, s4, s5, s6⟩ := HC2.out.below hb3
  have p0 := (HP2.out.below hb3).cell (k := 0) rfl
  have p1 := (HP2.out.below hb3).cell (k := 1) rfl
  obtain ⟨b, o, rfl, _, hcl⟩ := (HR.out.below HX3.out).open_ (by simp [regV])
  have e2 := hcl 2 _ rfl
  simp only [iv] at e2
  clear hb3 hcl
  go_wp2
  go_ret
  exact ⟨rfl, HB3.out⟩
end Go.Proofs.YtbpkclopcoaikaaGreatDoor
