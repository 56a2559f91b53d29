/- The walk of DiskApplies. -/
import Derived.Test.YtjpmfiicbokdcaaFcW
namespace Go.Proofs.Ytjpmfiicbokdcaa
open Go.RowKit
set_option linter.unusedVariables false
set_option linter.unusedSimpArgs false
theorem bl_tape {w wr w' : World} {g : Nat} (h : Below w.heap.size w wr) (hg : wr.grownBy w' (some g)) (hw : w.heap.size ≤ g) : Below w.heap.size w w' := bl_grown h hg (fun k e => by injection e with e; omega)
theorem szK.mono {K K' : Nat} {d : Dsk} (h : szK K d) (hk : K ≤ K') : szK K' d := ⟨Nat.le_trans h.1 hk, Nat.le_trans h.2.1 hk, Nat.le_trans h.2.2.1 hk, Nat.le_trans h.2.2.2 hk⟩
namespace diskApplies
set_option maxHeartbeats 4000000 in
set_option maxRecDepth 100000 in
theorem walk (a : Option Addr) (len cap : Nat) (z : List Int) (w : World) (w0 : IsRow .i64 w a len cap z) :
    Calls Try.prog 9 #[.slice a len cap] w fun e w' => e = .returned (.bool true) ∧ Below w.heap.size w w' := by
  obtain ⟨zs, hl, hr, hc, hm, _, _⟩ := w0.ints
  have HL := hide hl.symm
  have HR := hide hr
  clear hl hr w0
  go_enter Try.func9, Try.ntmps9
  go_wp2_with fail
  refine (tnew_any a len cap zs w HL.out hc hm HR.out).mono ?_
  rintro e w1 ⟨rfl, ht1, hb1⟩
  obtain ⟨g, hg⟩ : ∃ g, g = w.heap.size := ⟨_, rfl⟩
  rw [← hg] at ht1 ⊢
  have hgw : w.heap.size ≤ g := by omega
  have hg1 := ht1.lt
  obtain ⟨W2, hW2⟩ : ∃ W2, W2 = w1.alloc (.cells [.slice none 0 0, .slice none 0 0, .slice none 0 0, .slice none 0 0].toArray 27) := ⟨_, rfl⟩
  have BD := hide (show BxD W2 w1.heap.size .nil by rw [hW2]; exact BxD.nil (Blk.new w1 _ _))
  have HT2 := hide (show IsTape W2 g by rw [hW2]; exact tapeF_alloc ht1 _)
  have HB2 := hide (show Below w.heap.size w W2 by rw [hW2]; exact bl_alloc hb1 _)
  have HW2 := hide hW2.symm
  clear hW2 ht1 hb1
  obtain ⟨D, hD⟩ : ∃ D, D = w1.heap.size := ⟨_, rfl⟩
  rw [← hD] at BD hg1
  have HD := hide hD
  clear hD hg
  go_wp2_with fail
  rw [HW2.out, ← HD.out]
  clear HW2 HD
  refine (deal_any g 14 W2 HT2.out (by decide) (by decide)).mono ?_
  rintro e w2 ⟨n, rfl, hn0, hn1, ht2, hg2⟩
  obtain ⟨n, rfl⟩ := Int.eq_ofNat_of_zero_le hn0
  have hn14 : n ≤ 14 := by omega
  have hgD : g ≠ D := by omega
  have BD2 := hide (BD.out.tape HT2.out hg2 hgD)
  have HB3 := hide (bl_tape HB2.out hg2 hgw)
  have HT3 := hide ht2
  clear BD HT2 HB2 ht2 hg2 hn0 hn1
  go_wp2_with fail
  go_loopw [5] (fun kv wr => ∃ (k : Nat) (d : Dsk), kv = .int .i64 (k : Int) ∧ k ≤ 14 ∧ Hid (BxD wr D d) ∧ Hid (goodD (14 - k) d) ∧ Hid (IsTape wr g) ∧ Hid (Below w.heap.size w wr)) (fun kv _ => (intOf kv).toNat)
  case atStart => exact ⟨n, .nil, rfl, hn14, BD2, hide ⟨valid_nil, Nat.zero_le _, Nat.zero_le _, Nat.zero_le _, Nat.zero_le _⟩, HT3, HB3⟩
  case round =>
    clear BD2 HT3 HB3
    obtain ⟨k, d, rfl, hk, BD, HGD, HTP, HBL⟩ := hrel
    rcases k with _ | k
    · obtain ⟨a1, n1, c1, a2, n2, c2, a3, n3, c3, a4, n4, c4, hb1, hd1⟩ := BD.out
      have y0 : wr.cell? ⟨D, 0, none⟩ = some _ := hb1.cell rfl
      have y1 : wr.cell? ⟨D, 1, none⟩ = some _ := hb1.cell rfl
      have y2 : wr.cell? ⟨D, 2, none⟩ = some _ := hb1.cell rfl
      have y3 : wr.cell? ⟨D, 3, none⟩ = some _ := hb1.cell rfl
      have yl := hb1.lt
      have HV := hide (validate_any _ d wr hd1 (HGD.out.2.szD (by decide)))
      have he : errM d = 0 := by unfold errM; rw [if_pos HGD.out.1]
      rw [he] at HV
      clear hb1 hd1 he
      go_wp2_with fail
      refine HV.out.mono ?_
      rintro e w3 ⟨rfl, hb3⟩
      have HB3 := hide (HBL.out.trans (hb3.mono HBL.out.size))
      clear hb3 HV y0 y1 y2 y3 yl
      go_wp2_with fail
      refine (known_any w3).mono ?_
      rintro e w4 ⟨rfl, hb4⟩
      go_wp2
      go_ret
      exact ⟨rfl, HB3.out.trans (hb4.mono HB3.out.size)⟩
    · have hk0 : (0 : Int) < ((k + 1 : Nat) : Int) := by omega
      have hks : ((k + 1 : Nat) : Int) - 1 = (k : Int) := by omega
      go_wp2_with fail
      refine (op_any g wr HTP.out).mono ?_
      rintro e w2 ⟨⟨kd, s, t, dd⟩, rfl, ho, ht2, hg2⟩
      have BD2 := hide (BD.out.tape HTP.out hg2 hgD)
      have HB2 := hide (bl_tape HBL.out hg2 hgw)
      have HT2 := hide ht2
      have HO := hide ho
      have hgs : goodD (14 - k) (applyM d (kd, s, t, dd)).1 := by
        have := HGD.out.step (kd, s, t, dd)
        rwa [show 14 - (k + 1) + 1 = 14 - k by omega] at this
      have HGS := hide hgs
      clear ht2 hg2 BD HTP HBL ho hgs
      obtain ⟨r, hr⟩ : ∃ r, r = applyM d (kd, s, t, dd) := ⟨_, rfl⟩
      have HRR := hide hr
      rw [← hr] at HGS
      clear hr
      obtain ⟨wa, hwa⟩ : ∃ wa, wa = w2.alloc (.cells [.int .i64 kd, .string (bstr s), .string (bstr t), .string (bstr dd)].toArray 48) := ⟨_, rfl⟩
      obtain ⟨O, hO⟩ : ∃ O, O = w2.heap.size := ⟨_, rfl⟩
      have OB := hide (show Blk wa O [.int .i64 kd, .string (bstr s), .string (bstr t), .string (bstr dd)] 48 by rw [hwa, hO]; exact Blk.new w2 _ _)
      obtain ⟨a1, n1, c1, a2, n2, c2, a3, n3, c3, a4, n4, c4, hb1, hd1⟩ := BD2.out
      have DB := hide (show Blk wa D _ _ by rw [hwa]; exact hb1.alloc _)
      have DI := hide (show IsD wa _ d by rw [hwa]; exact hd1.below (bl_alloc (bl_refl w2) _))
      have TA := hide (show IsTape wa g by rw [hwa]; exact tapeF_alloc HT2.out _)
      have LA := hide (show Below w.heap.size w wa by rw [hwa]; exact bl_alloc HB2.out _)
      have hDO : D < O := by rw [hO]; exact hb1.lt
      have xy0 : w2.cell? ⟨D, 0, none⟩ = some _ := hb1.cell rfl
      have xy1 : w2.cell? ⟨D, 1, none⟩ = some _ := hb1.cell rfl
      have xy2 : w2.cell? ⟨D, 2, none⟩ = some _ := hb1.cell rfl
      have xy3 : w2.cell? ⟨D, 3, none⟩ = some _ := hb1.cell rfl
      have xl := hb1.lt
      have HOO := hide hO.symm
      have HWA := hide hwa.symm
      clear hwa hO BD2 HB2 HT2 hb1 hd1
      unfold oV
      go_wp2_with fail
      rw [HWA.out, HOO.out]
      clear HWA HOO xy0 xy1 xy2 xy3 xl
      have HAP := papply_any _ d (kd, s, t, dd) 14 wa DI.out (HGD.out.2.mono (by omega)) (by decide) (show dd.length ≤ 140737488355328 by have := HO.out; omega)
      rw [← HRR.out] at HAP
      refine HAP.mono ?_
      rintro e w3 ⟨u, rfl, hu, hb3⟩
      obtain ⟨b1, m1, q1, b2, m2, q2, b3, m3, q3, b4, m4, q4, rfl⟩ := hu.four
      have U3 := hide hu
      have O3 := hide (OB.out.below hb3)
      have D3 := hide (DB.out.below hb3)
      have I3 := hide (DI.out.below hb3)
      have T3 := hide (TA.out.below hb3)
      have L3 := hide (LA.out.trans (hb3.mono LA.out.size))
      clear hu hb3 OB DB DI TA LA HAP
      have xy0 : w3.cell? ⟨D, 0, none⟩ = some _ := D3.out.cell rfl
      have xy1 : w3.cell? ⟨D, 1, none⟩ = some _ := D3.out.cell rfl
      have xy2 : w3.cell? ⟨D, 2, none⟩ = some _ := D3.out.cell rfl
      have xy3 : w3.cell? ⟨D, 3, none⟩ = some _ := D3.out.cell rfl
      have xl := D3.out.lt
      have oy0 : w3.cell? ⟨O, 0, none⟩ = some _ := O3.out.cell rfl
      have oy1 : w3.cell? ⟨O, 1, none⟩ = some _ := O3.out.cell rfl
      have oy2 : w3.cell? ⟨O, 2, none⟩ = some _ := O3.out.cell rfl
      have oy3 : w3.cell? ⟨O, 3, none⟩ = some _ := O3.out.cell rfl
      have ol := O3.out.lt
      obtain ⟨wb, hwb⟩ : ∃ wb, wb = w3.alloc (.cells [.slice b1 m1 q1, .slice b2 m2 q2, .slice b3 m3 q3, .slice b4 m4 q4].toArray 27) := ⟨_, rfl⟩
      obtain ⟨X, hX⟩ : ∃ X, X = w3.heap.size := ⟨_, rfl⟩
      have XB := hide (show Blk wb X [.slice b1 m1 q1, .slice b2 m2 q2, .slice b3 m3 q3, .slice b4 m4 q4] 27 by rw [hwb, hX]; exact Blk.new w3 _ _)
      have hbw := bl_alloc (bl_refl w3) (.cells [.slice b1 m1 q1, .slice b2 m2 q2, .slice b3 m3 q3, .slice b4 m4 q4].toArray 27)
      rw [← hwb] at hbw
      have UB := hide (U3.out.below hbw)
      have OB := hide (O3.out.below hbw)
      have DB := hide (D3.out.below hbw)
      have DI := hide (I3.out.below hbw)
      have TB := hide (T3.out.below hbw)
      have LB := hide (bl_trans L3.out hbw)
      have hDX : D < X := by rw [hX]; exact xl
      have hOX : O < X := by rw [hX]; exact ol
      have HXX := hide hX.symm
      have HWB := hide hwb.symm
      clear hwb hX hbw U3 O3 D3 I3 T3 L3
      go_wp2_with fail
      rw [HWB.out, HXX.out]
      clear HWB HXX xy0 xy1 xy2 xy3 xl oy0 oy1 oy2 oy3 ol
      have HAP := rapply_any _ d (kd, s, t, dd) wb DI.out (HGD.out.2.szD (by omega)) (show dd.length ≤ 140737488355328 by have := HO.out; omega)
      rw [← HRR.out] at HAP
      refine HAP.mono ?_
      rintro e w4 ⟨u, rfl, hu, hb4⟩
      obtain ⟨e1, f1, g1, e2, f2, g2, e3, f3, g3, e4, f4, g4, rfl⟩ := hu.four
      have V4 := hide hu
      have U4 := hide (UB.out.below hb4)
      have X4 := hide (XB.out.below hb4)
      have D4 := hide (DB.out.below hb4)
      have I4 := hide (DI.out.below hb4)
      have T4 := hide (TB.out.below hb4)
      have L4 := hide (LB.out.trans (hb4.mono LB.out.size))
      clear hu hb4 UB XB OB DB DI TB LB HAP
      obtain ⟨wc, hwc⟩ : ∃ wc, wc = w4.alloc (.cells [.slice e1 f1 g1, .slice e2 f2 g2, .slice e3 f3 g3, .slice e4 f4 g4].toArray 27) := ⟨_, rfl⟩
      obtain ⟨Y, hY⟩ : ∃ Y, Y = w4.heap.size := ⟨_, rfl⟩
      have hbw := bl_alloc (bl_refl w4) (.cells [.slice e1 f1 g1, .slice e2 f2 g2, .slice e3 f3 g3, .slice e4 f4 g4].toArray 27)
      rw [← hwc] at hbw
      have YB := hide (show Blk wc Y [.slice e1 f1 g1, .slice e2 f2 g2, .slice e3 f3 g3, .slice e4 f4 g4] 27 by rw [hwc, hY]; exact Blk.new w4 _ _)
      have VB := hide (V4.out.below hbw)
      have UB := hide (U4.out.below hbw)
      have DB := hide (D4.out.below hbw)
      have DI := hide (I4.out.below hbw)
      have TB := hide (T4.out.below hbw)
      have LB := hide (bl_trans L4.out hbw)
      have xy0 : w4.cell? ⟨X, 0, none⟩ = some _ := X4.out.cell rfl
      have xy1 : w4.cell? ⟨X, 1, none⟩ = some _ := X4.out.cell rfl
      have xy2 : w4.cell? ⟨X, 2, none⟩ = some _ := X4.out.cell rfl
      have xy3 : w4.cell? ⟨X, 3, none⟩ = some _ := X4.out.cell rfl
      have xl := X4.out.lt
      have hXY : X < Y := by rw [hY]; exact xl
      have HYY := hide hY.symm
      have HWC := hide hwc.symm
      clear hwc hY hbw V4 U4 X4 D4 I4 T4 L4
      obtain ⟨rn, hrn⟩ : ∃ rn, rn = r.2 := ⟨_, rfl⟩
      rw [← hrn]
      have HRN := hide hrn
      clear hrn
      go_wp2_with fail
      rw [HWC.out, HYY.out]
      clear HWC HYY xy0 xy1 xy2 xy3 xl
      refine (rsame_any _ _ _ _ wc UB.out VB.out (HGS.out.2.szD (by omega)) (HGS.out.2.szD (by omega))).mono ?_
      rintro e w5 ⟨rfl, hb5⟩
      rw [show decide (r.1 = r.1) = true by simp]
      have Y5 := hide (YB.out.below hb5)
      have V5 := hide (VB.out.below hb5)
      have D5 := hide (DB.out.below hb5)
      have I5 := hide (DI.out.below hb5)
      have T5 := hide (TB.out.below hb5)
      have L5 := hide (LB.out.trans (hb5.mono LB.out.size))
      clear hb5 YB VB UB DB DI TB LB
      have xy0 : w5.cell? ⟨D, 0, none⟩ = some _ := D5.out.cell rfl
      have xy1 : w5.cell? ⟨D, 1, none⟩ = some _ := D5.out.cell rfl
      have xy2 : w5.cell? ⟨D, 2, none⟩ = some _ := D5.out.cell rfl
      have xy3 : w5.cell? ⟨D, 3, none⟩ = some _ := D5.out.cell rfl
      have xl := D5.out.lt
      have xf := D5.out.fr
      have zy0 : w5.cell? ⟨Y, 0, none⟩ = some _ := Y5.out.cell rfl
      have zy1 : w5.cell? ⟨Y, 1, none⟩ = some _ := Y5.out.cell rfl
      have zy2 : w5.cell? ⟨Y, 2, none⟩ = some _ := Y5.out.cell rfl
      have zy3 : w5.cell? ⟨Y, 3, none⟩ = some _ := Y5.out.cell rfl
      have zl := Y5.out.lt
      by_cases he : rn = 0
      · subst he
        go_wp2
        go_roundw
        case rel =>
          refine ⟨k, r.1, by go_num, by omega, hide (BxD.put ⟨_, _, _, _, _, _, _, _, _, _, _, _, D5.out, I5.out⟩ V5.out), HGS, hide ?_, hide (bl_set4 L5.out (by omega) _ _ _ _)⟩
          exact tapeF_set (tapeF_set (tapeF_set (tapeF_set T5.out (by omega) _ _) (by omega) _ _) (by omega) _ _) (by omega) _ _
        case measure => simp [intOf]
      · have he' : ((rn : Int) == 0) = false := by rw [beq_eq_false_iff_ne]; omega
        have he2 : ¬ (rn : Int) = 0 := by omega
        go_wp2
        go_roundw
        case rel =>
          exact ⟨k, d, by go_num, by omega, hide ⟨_, _, _, _, _, _, _, _, _, _, _, _, D5.out, I5.out⟩, hide ⟨HGD.out.1, HGD.out.2.mono (by omega)⟩, T5, L5⟩
        case measure => simp [intOf]
end diskApplies
end Go.Proofs.Ytjpmfiicbokdcaa
