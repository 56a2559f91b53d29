/- The walk of DiskTwice. -/
import Derived.Test.YtjpmfiicbokdcaaFgW
import Derived.Test.YtjpmfiicbokdcaaVN
namespace Go.Proofs.Ytjpmfiicbokdcaa
open Go.RowKit
set_option linter.unusedVariables false
set_option linter.unusedSimpArgs false
namespace diskTwice
set_option maxHeartbeats 4000000 in
set_option maxRecDepth 100000 in
theorem walk (a : Option Addr) (len cap : Nat) (z : List Int) (ca : Option Addr) (cn cc : Nat) (cz : List Int) (ma : Option Addr) (mn mc : Nat) (mz : List Int) (w : World) (w0 : IsRow .i64 w a len cap z) (v0 : IsRow .i64 w ca cn cc cz) (x0 : IsRow .i64 w ma mn mc mz) :
    Calls Try.prog 5 #[.slice a len cap, .slice ca cn cc, .slice ma mn mc] w fun e w' => e = .returned (.bool true) ∧ Below w.heap.size w w' := by
  obtain ⟨zs, hl, hr, hc, hm, _, _⟩ := w0.ints
  have HL := hide hl.symm
  have HR := hide hr
  clear hl hr w0
  obtain ⟨ch, hcl, hcr, hcc, hcm⟩ := v0.rdK
  obtain ⟨mh, hml, hmr, hmc, hmm⟩ := x0.rdK
  have HCL := hide hcl
  have HCR := hide hcr
  have HML := hide hml
  have HMR := hide hmr
  clear hcl hcr v0 hml hmr x0
  go_enter Try.func5, Try.ntmps5
  go_wp2_with fail
  refine (tnew_any a len cap zs w HL.out hc hm HR.out).mono ?_
  rintro e w1 ⟨rfl, ht1, hb1⟩
  have HT1 := hide ht1
  have HB1 := hide hb1
  clear ht1 hb1
  go_wp2_with fail
  refine (build_any w.heap.size 12 12 w1 rfl (by decide) HT1.out).mono ?_
  rintro e w2 ⟨u, d, rfl, hu, hgd, hg2⟩
  obtain ⟨a1, n1, c1, a2, n2, c2, a3, n3, c3, a4, n4, c4, rfl⟩ := hu.four
  have L2 := hide (bl_tape HB1.out hg2 (Nat.le_refl _))
  have HC1 := crash_any _ d ca cn cc ch w2 hu (hgd.2.mono (by decide)) (HCR.out.below L2.out) HCL.out
  obtain ⟨c, hcd⟩ : ∃ c, c = crashM d ch := ⟨_, rfl⟩
  have HVC := hide (show validM c = true by rw [hcd]; exact valid_crash _ _)
  have HSC := hide (show szK 24 c by rw [hcd]; exact crash_szK hgd.2 _)
  have HST := hide (show settled c by rw [hcd]; exact settled_crash _ _)
  rw [← hcd] at HC1
  have HCA := hide HC1
  clear hcd HC1 hu hgd hg2 HT1 HB1
  go_wp2_with fail
  refine HCA.out.mono ?_
  rintro e w3 ⟨u, rfl, hu, hb3⟩
  obtain ⟨b1, m1, q1, b2, m2, q2, b3, m3, q3, b4, m4, q4, rfl, -, -, -, h4, -⟩ := hu.h
  obtain rfl : m4 = 0 := by rw [h4.1, HST.out.1]; rfl
  obtain ⟨wb, hwb⟩ : ∃ wb, wb = w3.alloc (.cells [.slice b1 m1 q1, .slice b2 m2 q2, .slice b3 m3 q3, .slice b4 0 q4].toArray 27) := ⟨_, rfl⟩
  obtain ⟨X, hX⟩ : ∃ X, X = w3.heap.size := ⟨_, rfl⟩
  have hbw : Below w3.heap.size w3 wb := by rw [hwb]; exact bl_alloc (bl_refl w3) _
  have XB := hide (show Blk wb X [.slice b1 m1 q1, .slice b2 m2 q2, .slice b3 m3 q3, .slice b4 0 q4] 27 by rw [hwb, hX]; exact Blk.new w3 _ _)
  have CIb := hide (hu.below hbw)
  have LB := hide (bl_trans (bl_trans L2.out hb3) hbw)
  have HMB := hide (HMR.out.below LB.out)
  have HXX := hide hX.symm
  have HWB := hide hwb.symm
  clear hwb hX hbw hu hb3 h4 L2 HCA
  go_wp2_with fail
  rw [HWB.out, HXX.out]
  clear HWB HXX
  have HC1 := hide (fun (wx : World) (hb : Below wb.heap.size wb wx) => crash_any _ c ma mn mc mh wx (CIb.out.below hb) (HSC.out.mono (by decide)) (HMB.out.below hb) HML.out)
  rw [crash_settled HVC.out HST.out] at HC1
  have HC5 := hide (fun (wx : World) (hC : CB wb.drew wx) => show (wx.cell? ⟨X, 0, none⟩ = some (.slice b1 m1 q1) ∧ wx.cell? ⟨X, 1, none⟩ = some (.slice b2 m2 q2) ∧ wx.cell? ⟨X, 2, none⟩ = some (.slice b3 m3 q3) ∧ wx.cell? ⟨X, 3, none⟩ = some (.slice b4 0 q4)) from ⟨(XB.out.below hC.below).cell rfl, (XB.out.below hC.below).cell rfl, (XB.out.below hC.below).cell rfl, (XB.out.below hC.below).cell rfl⟩)
  refine wp_region_K 4 (by kernel_rfl) (by kernel_rfl) (fun Q HQ => ?_)
  simp only [List.take_succ_cons, List.take_zero, List.map_cons, List.map_nil]
  repeat
    first | apply wpS_c rfl | apply wpS_gc rfl (guard_mk rfl rfl)
    focus
      intro ev wx hC hx
      (try simp [Op.operands, Call.operands, opndS, Slot.holds] at hx)
      obtain ⟨k0, k1, k2, k3⟩ := HC5.out wx hC
      go_simp
      try (first | exact rfl | exact ⟨Below.refl _ _, rfl⟩)
      done
    dsimp only [setS, List.set]
  refine wpS_p (R := fun v w => IsD w v c) rfl (stab_isD c) ?_ ?_
  focus
    intro ev wx hC hx
    (try simp [Op.operands, Call.operands, opndS, Slot.holds] at hx)
    go_simp
    refine (HC1.out wx hC.below).mono ?_
    rintro e w' ⟨u, rfl, hu, hb⟩
    exact ⟨u, rfl, hb, hu⟩
  dsimp only [setS, List.set]
  repeat
    first | apply wpS_c rfl | apply wpS_gc rfl (guard_mk rfl rfl)
    focus
      intro ev wx hC hx
      (try simp [Op.operands, Call.operands, opndS, Slot.holds] at hx)
      obtain ⟨k0, k1, k2, k3⟩ := HC5.out wx hC
      go_simp
      try (first | exact rfl | exact ⟨Below.refl _ _, rfl⟩)
      done
    dsimp only [setS, List.set]
  refine wpS_nil (HQ _ fun w5 hC5 => ?_)
  simp only [closeS, List.drop_succ_cons, List.drop_zero]
  rintro v15 hv15
  obtain ⟨e1, f1, g1, e2, f2, g2, e3, f3, g3, e4, f4, g4, rfl⟩ := hv15.four
  have hb5 := hC5.below
  have VI := hide hv15
  have X5 := hide (XB.out.below hb5)
  have C5 := hide (CIb.out.below hb5)
  have L5 := hide (bl_trans LB.out hb5)
  clear hb5 hC5 HQ hv15 XB CIb LB HC1 HC5
  have HS := rsame_any _ _ _ _ w5 VI.out C5.out (HSC.out.szD (by decide)) (HSC.out.szD (by decide))
  rw [show decide (c = c) = true by simp] at HS
  have HSA := hide HS
  clear HS
  go_wp2_with fail
  refine HSA.out.mono ?_
  rintro e w6 ⟨rfl, hb6⟩
  have X6 := hide (X5.out.below hb6)
  have L6 := hide (bl_trans L5.out hb6)
  clear hb6 HSA X5 C5 L5 VI
  have zy0 : w6.cell? ⟨X, 0, none⟩ = some _ := X6.out.cell rfl
  have zy1 : w6.cell? ⟨X, 1, none⟩ = some _ := X6.out.cell rfl
  have zy2 : w6.cell? ⟨X, 2, none⟩ = some _ := X6.out.cell rfl
  have zy3 : w6.cell? ⟨X, 3, none⟩ = some _ := X6.out.cell rfl
  have zl := X6.out.lt
  go_wp2_with fail
  refine (known_any w6).mono ?_
  rintro e w8 ⟨rfl, hb8⟩
  go_wp2
  go_ret
  exact ⟨rfl, bl_trans L6.out hb8⟩
end diskTwice
end Go.Proofs.Ytjpmfiicbokdcaa
