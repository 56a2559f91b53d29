/- The walks of DiskCrashes and DiskTwice. -/
import Derived.Test.YtjpmfiicbokdcaaFdW
namespace Go.Proofs.Ytjpmfiicbokdcaa
open Go.RowKit
set_option linter.unusedVariables false
set_option linter.unusedSimpArgs false
theorem stab_isD (d : Dsk) : Stab (.p fun v w => IsD w v d) := fun _ _ _ hb h => h.below hb
theorem errM_ok {d : Dsk} (h : validM d = true) : errM d = 0 := by unfold errM; rw [if_pos h]
theorem IsRow.rdK {w : World} {a : Option Addr} {len cap : Nat} {z : List Int} (h : IsRow .i64 w a len cap z) : ∃ l : List Int, len = l.length ∧ Rd w a (l.map (Value.int .i64)) ∧ len ≤ cap ∧ cap ≤ maxLen := by
  obtain ⟨l, h1, h2, h3, h4, -⟩ := h.ints
  exact ⟨l, h1.symm, h2, h3, h4⟩
namespace diskCrashes
set_option maxHeartbeats 4000000 in
set_option maxRecDepth 100000 in
theorem walk (a : Option Addr) (len cap : Nat) (z : List Int) (ca : Option Addr) (cn cc : Nat) (cz : List Int) (w : World) (w0 : IsRow .i64 w a len cap z) (v0 : IsRow .i64 w ca cn cc cz) :
    Calls Try.prog 4 #[.slice a len cap, .slice ca cn cc] w fun e w' => e = .returned (.bool true) ∧ Below w.heap.size w w' := by
  obtain ⟨zs, hl, hr, hc, hm, _, _⟩ := w0.ints
  have HL := hide hl.symm
  have HR := hide hr
  clear hl hr w0
  obtain ⟨ch, hcl, hcr, hcc, hcm⟩ := v0.rdK
  have HCL := hide hcl
  have HCR := hide hcr
  unfold maxLen at hcm
  clear hcl hcr v0
  go_enter Try.func4, Try.ntmps4
  go_wp2_with fail
  refine (tnew_any a len cap zs w HL.out hc hm HR.out).mono ?_
  rintro e w1 ⟨rfl, ht1, hb1⟩
  have HT1 := hide ht1
  have HB1 := hide hb1
  clear ht1 hb1
  go_wp2_with fail
  refine (build_any w.heap.size 14 14 w1 rfl (by decide) HT1.out).mono ?_
  rintro e w2 ⟨u, d, rfl, hu, hgd, hg2⟩
  obtain ⟨a1, n1, c1, a2, n2, c2, a3, n3, c3, a4, n4, c4, rfl⟩ := hu.four
  obtain ⟨wa, hwa⟩ : ∃ wa, wa = w2.alloc (.cells [.slice a1 n1 c1, .slice a2 n2 c2, .slice a3 n3 c3, .slice a4 n4 c4].toArray 27) := ⟨_, rfl⟩
  obtain ⟨D, hD⟩ : ∃ D, D = w2.heap.size := ⟨_, rfl⟩
  have DB := hide (show Blk wa D [.slice a1 n1 c1, .slice a2 n2 c2, .slice a3 n3 c3, .slice a4 n4 c4] 27 by rw [hwa, hD]; exact Blk.new w2 _ _)
  have DI := hide (show IsD wa _ d by rw [hwa]; exact hu.below (bl_alloc (bl_refl w2) _))
  have LB := hide (show Below w.heap.size w wa by rw [hwa]; exact bl_alloc (bl_tape HB1.out hg2 (Nat.le_refl _)) _)
  have HGD := hide hgd
  have HDD := hide hD.symm
  have HWA := hide hwa.symm
  clear hu hgd hg2 hwa hD HT1 HB1
  obtain ⟨q, hq⟩ : ∃ q, q = (if 30 < cn then 30 else cn) := ⟨_, rfl⟩
  have HCQ := hide (show q = (ch.take q).length by rw [List.length_take, ← HCL.out, hq]; split <;> omega)
  have hqc : q ≤ cc := by rw [hq]; split <;> omega
  have HRQ := hide (show Rd wa ca ((ch.take q).map (Value.int .i64)) by rw [List.map_take]; exact (HCR.out.below LB.out).take q)
  have HC1 := hide (crash_any _ d ca q cc (ch.take q) wa DI.out (HGD.out.2.mono (by decide)) HRQ.out HCQ.out)
  obtain ⟨c, hcd⟩ : ∃ c, c = crashM d (ch.take q) := ⟨_, rfl⟩
  have HVC := hide (show validM c = true by rw [hcd]; exact valid_crash _ _)
  have HSC := hide (show szK 28 c by rw [hcd]; exact crash_szK HGD.out.2 _)
  have HCD := hide hcd
  rw [← hcd] at HC1
  clear hcd
  by_cases h30 : 30 < cn
  · have h1 : (30 : Int) < (cn : Int) := by omega
    have h2 : (30 : Int) ≤ (cc : Int) := by omega
    have h3 : 30 ≤ cc := by omega
    obtain rfl : q = 30 := by rw [hq, if_pos h30]
    clear hq
    go_wp2_with fail
    rw [HWA.out, HDD.out]
    clear HWA HDD
    have xy0 : wa.cell? ⟨D, 0, none⟩ = some _ := DB.out.cell rfl
    have xy1 : wa.cell? ⟨D, 1, none⟩ = some _ := DB.out.cell rfl
    have xy2 : wa.cell? ⟨D, 2, none⟩ = some _ := DB.out.cell rfl
    have xy3 : wa.cell? ⟨D, 3, none⟩ = some _ := DB.out.cell rfl
    have xl := DB.out.lt
    go_wp2_with fail
    refine HC1.out.mono ?_
    rintro e w3 ⟨u, rfl, hu, hb3⟩
    obtain ⟨b1, m1, q1, b2, m2, q2, b3, m3, q3, b4, m4, q4, rfl⟩ := hu.four
    have CI := hide hu
    have D3 := hide (DB.out.below hb3)
    have I3 := hide (DI.out.below hb3)
    have R3 := hide (HRQ.out.below hb3)
    have L3 := hide (bl_trans LB.out hb3)
    clear hu hb3 DB DI HRQ LB HC1
    obtain ⟨wb, hwb⟩ : ∃ wb, wb = w3.alloc (.cells [.slice b1 m1 q1, .slice b2 m2 q2, .slice b3 m3 q3, .slice b4 m4 q4].toArray 27) := ⟨_, rfl⟩
    obtain ⟨X, hX⟩ : ∃ X, X = w3.heap.size := ⟨_, rfl⟩
    have hbw : Below w3.heap.size w3 wb := by rw [hwb]; exact bl_alloc (bl_refl w3) _
    have XB := hide (show Blk wb X [.slice b1 m1 q1, .slice b2 m2 q2, .slice b3 m3 q3, .slice b4 m4 q4] 27 by rw [hwb, hX]; exact Blk.new w3 _ _)
    have CIb := hide (CI.out.below hbw)
    have DB := hide (D3.out.below hbw)
    have DI := hide (I3.out.below hbw)
    have HRQ := hide (R3.out.below hbw)
    have LB := hide (bl_trans L3.out hbw)
    have HXX := hide hX.symm
    have HWB := hide hwb.symm
    clear hwb hX hbw D3 I3 R3 L3 CI
    go_wp2_with fail
    rw [HWB.out, HXX.out]
    clear HWB HXX
    have HC1 := hide (fun (wx : World) (hb : Below wb.heap.size wb wx) => rcrash_any _ d ca 30 cc (ch.take 30) wx (DI.out.below hb) (HGD.out.2.mono (by decide)) (HRQ.out.below hb) HCQ.out)
    rw [← HCD.out] at HC1
    have HC5 := hide (fun (wx : World) (hC : CB wb.drew wx) => show (wx.cell? ⟨X, 0, none⟩ = some (.slice b1 m1 q1) ∧ wx.cell? ⟨X, 1, none⟩ = some (.slice b2 m2 q2) ∧ wx.cell? ⟨X, 2, none⟩ = some (.slice b3 m3 q3) ∧ wx.cell? ⟨X, 3, none⟩ = some (.slice b4 m4 q4)) ∧ (wx.cell? ⟨D, 0, none⟩ = some (.slice a1 n1 c1) ∧ wx.cell? ⟨D, 1, none⟩ = some (.slice a2 n2 c2) ∧ wx.cell? ⟨D, 2, none⟩ = some (.slice a3 n3 c3) ∧ wx.cell? ⟨D, 3, none⟩ = some (.slice a4 n4 c4)) from ⟨⟨(XB.out.below hC.below).cell rfl, (XB.out.below hC.below).cell rfl, (XB.out.below hC.below).cell rfl, (XB.out.below hC.below).cell rfl⟩, ⟨(DB.out.below hC.below).cell rfl, (DB.out.below hC.below).cell rfl, (DB.out.below hC.below).cell rfl, (DB.out.below hC.below).cell rfl⟩⟩)
    refine wp_region_K 4 (by kernel_rfl) (by kernel_rfl) (fun Q HQ => ?_)
    simp only [List.take_succ_cons, List.take_zero, List.map_cons, List.map_nil]
    repeat
      first | apply wpS_c rfl | apply wpS_gc rfl (guard_mk rfl rfl)
      focus
        intro ev wx hC hx
        (try simp [Op.operands, Call.operands, opndS, Slot.holds] at hx)
        obtain ⟨⟨k0, k1, k2, k3⟩, j0, j1, j2, j3⟩ := HC5.out wx hC
        go_simp
        try (first | exact rfl | exact ⟨Below.refl _ _, rfl⟩)
        done
      dsimp only [setS, List.set]
    refine wpS_p (R := fun v w => IsD w v c) rfl (stab_isD c) ?_ ?_
    focus
      intro ev wx hC hx
      (try simp [Op.operands, Call.operands, opndS, Slot.holds] at hx)
      go_simp
      refine (HC1.out wx hC.below).mono ?_
      rintro e w' ⟨u, rfl, hu, hb⟩
      exact ⟨u, rfl, hb, hu⟩
    dsimp only [setS, List.set]
    refine wpS_nil (HQ _ fun w5 hC5 => ?_)
    simp only [closeS, List.drop_succ_cons, List.drop_zero]
    rintro v21 hv21
    obtain ⟨e1, f1, g1, e2, f2, g2, e3, f3, g3, e4, f4, g4, rfl⟩ := hv21.four
    have hb5 := hC5.below
    have VI := hide hv21
    have X5 := hide (XB.out.below hb5)
    have C5 := hide (CIb.out.below hb5)
    have L5 := hide (bl_trans LB.out hb5)
    clear hb5 hC5 HQ hv21 XB CIb DB DI HRQ LB HC1 HC5
    have HS := rsame_any _ _ _ _ w5 C5.out VI.out (HSC.out.szD (by decide)) (HSC.out.szD (by decide))
    rw [show decide (c = c) = true by simp] at HS
    have HSA := hide HS
    clear HS
    go_wp2_with fail
    refine HSA.out.mono ?_
    rintro e w6 ⟨rfl, hb6⟩
    have X6 := hide (X5.out.below hb6)
    have C6 := hide (C5.out.below hb6)
    have L6 := hide (bl_trans L5.out hb6)
    clear hb6 HSA X5 C5 L5 VI
    have zy0 : w6.cell? ⟨X, 0, none⟩ = some _ := X6.out.cell rfl
    have zy1 : w6.cell? ⟨X, 1, none⟩ = some _ := X6.out.cell rfl
    have zy2 : w6.cell? ⟨X, 2, none⟩ = some _ := X6.out.cell rfl
    have zy3 : w6.cell? ⟨X, 3, none⟩ = some _ := X6.out.cell rfl
    have zl := X6.out.lt
    have HV := validate_any _ c w6 C6.out (HSC.out.szD (by decide))
    rw [errM_ok HVC.out] at HV
    have HVA := hide HV
    clear HV
    go_wp2_with fail
    refine HVA.out.mono ?_
    rintro e w7 ⟨rfl, hb7⟩
    have L7 := hide (bl_trans L6.out hb7)
    clear hb7 HVA X6 C6 L6 zy0 zy1 zy2 zy3 zl
    go_wp2_with fail
    refine (known_any w7).mono ?_
    rintro e w8 ⟨rfl, hb8⟩
    go_wp2
    go_ret
    exact ⟨rfl, bl_trans L7.out hb8⟩
  · have h1 : ¬ (30 : Int) < (cn : Int) := by omega
    obtain rfl : q = cn := by rw [hq, if_neg h30]
    clear hq
    go_wp2_with fail
    rw [HWA.out, HDD.out]
    clear HWA HDD
    have xy0 : wa.cell? ⟨D, 0, none⟩ = some _ := DB.out.cell rfl
    have xy1 : wa.cell? ⟨D, 1, none⟩ = some _ := DB.out.cell rfl
    have xy2 : wa.cell? ⟨D, 2, none⟩ = some _ := DB.out.cell rfl
    have xy3 : wa.cell? ⟨D, 3, none⟩ = some _ := DB.out.cell rfl
    have xl := DB.out.lt
    go_wp2_with fail
    refine HC1.out.mono ?_
    rintro e w3 ⟨u, rfl, hu, hb3⟩
    obtain ⟨b1, m1, q1, b2, m2, q2, b3, m3, q3, b4, m4, q4, rfl⟩ := hu.four
    have CI := hide hu
    have D3 := hide (DB.out.below hb3)
    have I3 := hide (DI.out.below hb3)
    have R3 := hide (HRQ.out.below hb3)
    have L3 := hide (bl_trans LB.out hb3)
    clear hu hb3 DB DI HRQ LB HC1
    obtain ⟨wb, hwb⟩ : ∃ wb, wb = w3.alloc (.cells [.slice b1 m1 q1, .slice b2 m2 q2, .slice b3 m3 q3, .slice b4 m4 q4].toArray 27) := ⟨_, rfl⟩
    obtain ⟨X, hX⟩ : ∃ X, X = w3.heap.size := ⟨_, rfl⟩
    have hbw : Below w3.heap.size w3 wb := by rw [hwb]; exact bl_alloc (bl_refl w3) _
    have XB := hide (show Blk wb X [.slice b1 m1 q1, .slice b2 m2 q2, .slice b3 m3 q3, .slice b4 m4 q4] 27 by rw [hwb, hX]; exact Blk.new w3 _ _)
    have CIb := hide (CI.out.below hbw)
    have DB := hide (D3.out.below hbw)
    have DI := hide (I3.out.below hbw)
    have HRQ := hide (R3.out.below hbw)
    have LB := hide (bl_trans L3.out hbw)
    have HXX := hide hX.symm
    have HWB := hide hwb.symm
    clear hwb hX hbw D3 I3 R3 L3 CI
    go_wp2_with fail
    rw [HWB.out, HXX.out]
    clear HWB HXX
    have HC1 := hide (fun (wx : World) (hb : Below wb.heap.size wb wx) => rcrash_any _ d ca q cc (ch.take q) wx (DI.out.below hb) (HGD.out.2.mono (by decide)) (HRQ.out.below hb) HCQ.out)
    rw [← HCD.out] at HC1
    have HC5 := hide (fun (wx : World) (hC : CB wb.drew wx) => show (wx.cell? ⟨X, 0, none⟩ = some (.slice b1 m1 q1) ∧ wx.cell? ⟨X, 1, none⟩ = some (.slice b2 m2 q2) ∧ wx.cell? ⟨X, 2, none⟩ = some (.slice b3 m3 q3) ∧ wx.cell? ⟨X, 3, none⟩ = some (.slice b4 m4 q4)) ∧ (wx.cell? ⟨D, 0, none⟩ = some (.slice a1 n1 c1) ∧ wx.cell? ⟨D, 1, none⟩ = some (.slice a2 n2 c2) ∧ wx.cell? ⟨D, 2, none⟩ = some (.slice a3 n3 c3) ∧ wx.cell? ⟨D, 3, none⟩ = some (.slice a4 n4 c4)) from ⟨⟨(XB.out.below hC.below).cell rfl, (XB.out.below hC.below).cell rfl, (XB.out.below hC.below).cell rfl, (XB.out.below hC.below).cell rfl⟩, ⟨(DB.out.below hC.below).cell rfl, (DB.out.below hC.below).cell rfl, (DB.out.below hC.below).cell rfl, (DB.out.below hC.below).cell rfl⟩⟩)
    refine wp_region_K 4 (by kernel_rfl) (by kernel_rfl) (fun Q HQ => ?_)
    simp only [List.take_succ_cons, List.take_zero, List.map_cons, List.map_nil]
    repeat
      first | apply wpS_c rfl | apply wpS_gc rfl (guard_mk rfl rfl)
      focus
        intro ev wx hC hx
        (try simp [Op.operands, Call.operands, opndS, Slot.holds] at hx)
        obtain ⟨⟨k0, k1, k2, k3⟩, j0, j1, j2, j3⟩ := HC5.out wx hC
        go_simp
        try (first | exact rfl | exact ⟨Below.refl _ _, rfl⟩)
        done
      dsimp only [setS, List.set]
    refine wpS_p (R := fun v w => IsD w v c) rfl (stab_isD c) ?_ ?_
    focus
      intro ev wx hC hx
      (try simp [Op.operands, Call.operands, opndS, Slot.holds] at hx)
      go_simp
      refine (HC1.out wx hC.below).mono ?_
      rintro e w' ⟨u, rfl, hu, hb⟩
      exact ⟨u, rfl, hb, hu⟩
    dsimp only [setS, List.set]
    refine wpS_nil (HQ _ fun w5 hC5 => ?_)
    simp only [closeS, List.drop_succ_cons, List.drop_zero]
    rintro v21 hv21
    obtain ⟨e1, f1, g1, e2, f2, g2, e3, f3, g3, e4, f4, g4, rfl⟩ := hv21.four
    have hb5 := hC5.below
    have VI := hide hv21
    have X5 := hide (XB.out.below hb5)
    have C5 := hide (CIb.out.below hb5)
    have L5 := hide (bl_trans LB.out hb5)
    clear hb5 hC5 HQ hv21 XB CIb DB DI HRQ LB HC1 HC5
    have HS := rsame_any _ _ _ _ w5 C5.out VI.out (HSC.out.szD (by decide)) (HSC.out.szD (by decide))
    rw [show decide (c = c) = true by simp] at HS
    have HSA := hide HS
    clear HS
    go_wp2_with fail
    refine HSA.out.mono ?_
    rintro e w6 ⟨rfl, hb6⟩
    have X6 := hide (X5.out.below hb6)
    have C6 := hide (C5.out.below hb6)
    have L6 := hide (bl_trans L5.out hb6)
    clear hb6 HSA X5 C5 L5 VI
    have zy0 : w6.cell? ⟨X, 0, none⟩ = some _ := X6.out.cell rfl
    have zy1 : w6.cell? ⟨X, 1, none⟩ = some _ := X6.out.cell rfl
    have zy2 : w6.cell? ⟨X, 2, none⟩ = some _ := X6.out.cell rfl
    have zy3 : w6.cell? ⟨X, 3, none⟩ = some _ := X6.out.cell rfl
    have zl := X6.out.lt
    have HV := validate_any _ c w6 C6.out (HSC.out.szD (by decide))
    rw [errM_ok HVC.out] at HV
    have HVA := hide HV
    clear HV
    go_wp2_with fail
    refine HVA.out.mono ?_
    rintro e w7 ⟨rfl, hb7⟩
    have L7 := hide (bl_trans L6.out hb7)
    clear hb7 HVA X6 C6 L6 zy0 zy1 zy2 zy3 zl
    go_wp2_with fail
    refine (known_any w7).mono ?_
    rintro e w8 ⟨rfl, hb8⟩
    go_wp2
    go_ret
    exact ⟨rfl, bl_trans L7.out hb8⟩
end diskCrashes
end Go.Proofs.Ytjpmfiicbokdcaa
