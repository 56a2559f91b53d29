/- The walk of DiskDurable. -/
import Derived.Test.YtjpmfiicbokdcaaFiW
import Derived.Test.YtjpmfiicbokdcaaVN
namespace Go.Proofs.Ytjpmfiicbokdcaa
open Go.RowKit
set_option linter.unusedVariables false
set_option linter.unusedSimpArgs false
theorem RE.set4 {w : World} {a : Option Addr} {n g : Nat} {l : List Ent} {cs : List Value} {t : TypeId} (h : RE w a n l) (hb : Blk w g cs t) (hc : AllSl cs) {p0 p1 p2 p3 : Value} (h0 : isSl p0 = true) (h1 : isSl p1 = true) (h2 : isSl p2 = true) : RE (Go.Proofs.Ytjpmfiicbokdcaa.set4 w g p0 p1 p2 p3) a n l :=
  (((h.setSl hb hc).setSl (hb.set 0 _) (hc.set 0 h0)).setSl ((hb.set 0 _).set 1 _) ((hc.set 0 h0).set 1 h1)).setSl (((hb.set 0 _).set 1 _).set 2 _) (((hc.set 0 h0).set 1 h1).set 2 h2)
namespace diskDurable
set_option maxHeartbeats 4000000 in
set_option maxRecDepth 100000 in
theorem walk (a : Option Addr) (len cap : Nat) (z : List Int) (ca : Option Addr) (cn cc : Nat) (cz : List Int) (w : World) (w0 : IsRow .i64 w a len cap z) (v0 : IsRow .i64 w ca cn cc cz) :
    Calls Try.prog 6 #[.slice a len cap, .slice ca cn cc] w fun e w' => e = .returned (.bool true) ∧ Below w.heap.size w w' := by
  obtain ⟨zs, hl, hr, hc, hm, _, _⟩ := w0.ints
  have HL := hide hl.symm
  have HR := hide hr
  clear hl hr w0
  obtain ⟨ch, hcl, hcr, hcc, hcm⟩ := v0.rdK
  have HCL := hide hcl
  have HCR := hide hcr
  clear hcl hcr v0
  go_enter Try.func6, Try.ntmps6
  go_wp2_with fail
  refine (tnew_any a len cap zs w HL.out hc hm HR.out).mono ?_
  rintro e w1 ⟨rfl, ht1, hb1⟩
  have HT1 := hide ht1
  have HB1 := hide hb1
  clear ht1 hb1
  go_wp2_with fail
  refine (build_any w.heap.size 10 10 w1 rfl (by decide) HT1.out).mono ?_
  rintro e w2 ⟨u, d, rfl, hu, hgd, hg2⟩
  obtain ⟨a1, n1, c1, a2, n2, c2, a3, n3, c3, a4, n4, c4, rfl⟩ := hu.four
  obtain ⟨wa, hwa⟩ : ∃ wa, wa = w2.alloc (.cells [.slice a1 n1 c1, .slice a2 n2 c2, .slice a3 n3 c3, .slice a4 n4 c4].toArray 27) := ⟨_, rfl⟩
  obtain ⟨D, hD⟩ : ∃ D, D = w2.heap.size := ⟨_, rfl⟩
  have DB := hide (show Blk wa D [.slice a1 n1 c1, .slice a2 n2 c2, .slice a3 n3 c3, .slice a4 n4 c4] 27 by rw [hwa, hD]; exact Blk.new w2 _ _)
  have DI := hide (show IsD wa _ d by rw [hwa]; exact hu.below (bl_alloc (bl_refl w2) _))
  have LB := hide (show Below w.heap.size w wa by rw [hwa]; exact bl_alloc (bl_tape HB1.out hg2 (Nat.le_refl _)) _)
  have hwD : w.heap.size ≤ D := by rw [hD]; exact (bl_tape HB1.out hg2 (Nat.le_refl _)).size
  have HGD := hide hgd
  have HDD := hide hD.symm
  have HWA := hide hwa.symm
  clear hu hgd hg2 hwa hD HT1 HB1
  have HRE := hide (show RE wa a2 n2 d.dir by
    obtain ⟨x1, y1, z1, x2, y2, z2, x3, y3, z3, x4, y4, z4, he, h1, h2, h3, h4, -⟩ := DI.out.h
    simp at he
    obtain ⟨-, ⟨rfl, rfl, rfl⟩, -⟩ := he
    exact h2)
  have hn2 : n2 ≤ 10 := by rw [HRE.out.1]; exact HGD.out.2.2.1
  go_wp2_with fail
  rw [HWA.out, HDD.out]
  clear HWA HDD
  have BD := hide (show BxD wa D ⟨d.inodes, d.dir, d.dur, d.ops⟩ from ⟨_, _, _, _, _, _, _, _, _, _, _, _, DB.out, DI.out⟩)
  have HSY := hide (syn_zero HGD.out.1)
  go_loopw [24] (fun kv wr => ∃ (k : Nat) (I : List Ent), kv = .int .i64 (k : Int) ∧ k ≤ n2 ∧ Hid (BxD wr D ⟨I, d.dir, d.dur, d.ops⟩) ∧ Hid (syn d k I) ∧ Hid (RE wr a2 n2 d.dir) ∧ Hid (Below w.heap.size w wr)) (fun kv _ => n2 - (intOf kv).toNat)
  case atStart => exact ⟨0, d.inodes, rfl, by omega, BD, HSY, HRE, LB⟩
  case round =>
    clear BD HSY DB DI HRE LB
    obtain ⟨k, I, rfl, hk, BD, HSY, HRE, LB⟩ := hrel
    obtain ⟨b1, m1, q1, b2, m2, q2, b3, m3, q3, b4, m4, q4, hb1, hd1⟩ := BD.out
    have DB := hide hb1
    have DI := hide hd1
    clear hb1 hd1
    have hsz : szK 10 ⟨I, d.dir, d.dur, d.ops⟩ := ⟨by rw [HSY.out.1]; exact HGD.out.2.1, HGD.out.2.2.1, HGD.out.2.2.2.1, HGD.out.2.2.2.2⟩
    have HSZ := hide hsz
    clear hsz
    have xy0 : wr.cell? ⟨D, 0, none⟩ = some _ := DB.out.cell rfl
    have xy1 : wr.cell? ⟨D, 1, none⟩ = some _ := DB.out.cell rfl
    have xy2 : wr.cell? ⟨D, 2, none⟩ = some _ := DB.out.cell rfl
    have xy3 : wr.cell? ⟨D, 3, none⟩ = some _ := DB.out.cell rfl
    have xl := DB.out.lt
    by_cases hlt : k < n2
    · have hkn : (k : Int) < (n2 : Int) := by omega
      obtain ⟨b, o, s, x, rfl, hbl, hx, p0, p1⟩ := HRE.out.at_ hlt
      obtain ⟨I', hap, hsy⟩ := syn_step HSY.out hx
      obtain ⟨wb, hwb⟩ : ∃ wb, wb = wr.alloc (.cells [.string (bstr s), .int .i64 x].toArray 35) := ⟨_, rfl⟩
      have hbw : Below wr.heap.size wr wb := by rw [hwb]; exact bl_alloc (bl_refl wr) _
      have HAP := rapply_any _ _ (3, s, [], []) wb (DI.out.below hbw) (HSZ.out.szD (by decide)) (Nat.zero_le _)
      rw [show applyM ⟨I, d.dir, d.dur, d.ops⟩ (3, s, [], []) = _ from hap] at HAP
      unfold oV at HAP
      have HAQ := hide HAP
      have HS2 := hide hsy
      have BD2 := hide (BD.out.below hbw)
      have DB2 := hide (DB.out.below hbw)
      have RE2 := hide (HRE.out.below hbw)
      have LB2 := hide (bl_trans LB.out hbw)
      have HWB := hide hwb.symm
      clear hwb hbw hap hsy HAP hx BD DB DI HRE LB HSY
      go_wp2_with fail
      rw [HWB.out]
      clear HWB xy0 xy1 xy2 xy3 xl p0 p1
      refine HAQ.out.mono ?_
      rintro e w3 ⟨u, rfl, hu, hb3⟩
      obtain ⟨e1, f1, g1, e2, f2, g2, e3, f3, g3, e4, f4, g4, rfl⟩ := hu.four
      have U3 := hide hu
      have B3 := hide (BD2.out.below hb3)
      have D3 := hide (DB2.out.below hb3)
      have R3 := hide (RE2.out.below hb3)
      have L3 := hide (bl_trans LB2.out hb3)
      clear hu hb3 BD2 DB2 RE2 LB2 HAQ
      have xy0 : w3.cell? ⟨D, 0, none⟩ = some _ := D3.out.cell rfl
      have xy1 : w3.cell? ⟨D, 1, none⟩ = some _ := D3.out.cell rfl
      have xy2 : w3.cell? ⟨D, 2, none⟩ = some _ := D3.out.cell rfl
      have xy3 : w3.cell? ⟨D, 3, none⟩ = some _ := D3.out.cell rfl
      have xl := D3.out.lt
      have xf := D3.out.fr
      go_wp2
      go_roundw
      case rel =>
        exact ⟨k + 1, I', by go_num, by omega, hide (BxD.put B3.out U3.out), HS2, hide (RE.set4 R3.out D3.out (allSl4 _ _ _ _ _ _ _ _ _ _ _ _) rfl rfl rfl), hide (bl_set4 L3.out (by omega) _ _ _ _)⟩
      case measure => simp [intOf]; omega
    · obtain rfl : k = n2 := by omega
      have hkn : ¬ (k : Int) < (k : Int) := by omega
      obtain ⟨hap, hst⟩ := syn_all HSY.out HRE.out.1
      have HAP := rapply_any _ _ (6, [], [], []) wr DI.out (HSZ.out.szD (by decide)) (by decide)
      rw [hap] at HAP
      obtain ⟨c, hcd⟩ : ∃ c, c = setM ⟨I, d.dir, d.dur, d.ops⟩ := ⟨_, rfl⟩
      have hvc : validM c = true := by rw [hcd]; exact valid_setM HSY.out.2.1
      have hsc : szK 10 c := by
        rw [hcd]
        have h1 := kept_le d.dir I 0
        obtain ⟨k1, k2, k3, k4⟩ := HSZ.out
        simp only at k1 k2 k3 k4
        refine ⟨?_, ?_, ?_, ?_⟩ <;> simp [setM, movM] <;> omega
      rw [← hcd] at HAP hst
      have HVC := hide hvc
      have HSC := hide hsc
      have HST := hide hst
      unfold oV at HAP
      have HAQ := hide HAP
      clear hcd hvc hsc hst hap HAP HSY HSZ
      go_wp2_with fail
      refine HAQ.out.mono ?_
      rintro e w3 ⟨u, rfl, hu, hb3⟩
      obtain ⟨e1, f1, g1, e2, f2, g2, e3, f3, g3, e4, f4, g4, rfl⟩ := hu.four
      have U3 := hide hu
      have B3 := hide (BD.out.below hb3)
      have D3 := hide (DB.out.below hb3)
      have L3 := hide (bl_trans LB.out hb3)
      clear hu hb3 BD DB LB HAQ DI HRE xy0 xy1 xy2 xy3 xl
      have xy0 : w3.cell? ⟨D, 0, none⟩ = some _ := D3.out.cell rfl
      have xy1 : w3.cell? ⟨D, 1, none⟩ = some _ := D3.out.cell rfl
      have xy2 : w3.cell? ⟨D, 2, none⟩ = some _ := D3.out.cell rfl
      have xy3 : w3.cell? ⟨D, 3, none⟩ = some _ := D3.out.cell rfl
      have xl := D3.out.lt
      have xf := D3.out.fr
      obtain ⟨w4, hw4⟩ : ∃ w4, w4 = set4 w3 D (.slice e1 f1 g1) (.slice e2 f2 g2) (.slice e3 f3 g3) (.slice e4 f4 g4) := ⟨_, rfl⟩
      have D4 := hide (show Blk w4 D _ _ by rw [hw4]; exact D3.out.set4 _ _ _ _)
      have I4 := hide (show IsD w4 _ c by rw [hw4]; exact U3.out.set4 D3.out (allSl4 _ _ _ _ _ _ _ _ _ _ _ _) rfl rfl rfl)
      have L4 := hide (show Below w.heap.size w w4 by rw [hw4]; exact bl_set4 L3.out hwD _ _ _ _)
      have HW4 := hide (show set4 w3 D (.slice e1 f1 g1) (.slice e2 f2 g2) (.slice e3 f3 g3) (.slice e4 f4 g4) = w4 from hw4.symm)
      unfold set4 at HW4
      clear hw4 U3 B3 D3 L3
      go_wp2_with fail
      rw [HW4.out]
      clear HW4 xy0 xy1 xy2 xy3 xl xf
      obtain ⟨ln, hln⟩ : ∃ ln, ln = listM c := ⟨_, rfl⟩
      obtain ⟨N, hN⟩ : ∃ N, N = ln.length := ⟨_, rfl⟩
      have hf2 : f2 = N := by
        obtain ⟨x1, y1, z1, x2, y2, z2, x3, y3, z3, x4, y4, z4, he, h1, h2, h3, h4, -⟩ := I4.out.h
        simp at he
        obtain ⟨-, ⟨rfl, rfl, rfl⟩, -⟩ := he
        rw [h2.1, hN, hln]
        unfold listM
        rw [if_pos HVC.out, List.length_map]
      have hN10 : N ≤ 10 := by
        rw [hN, hln]
        unfold listM
        rw [if_pos HVC.out, List.length_map]
        exact HSC.out.2.1
      subst hf2
      have HLM := list_any _ c w4 I4.out (HSC.out.szD (by decide))
      rw [← hln, ← hN] at HLM
      refine HLM.mono ?_
      rintro e w5 ⟨u, rfl, hown, hb5⟩
      obtain ⟨lb, lq, rfl, hlq, hrd⟩ := ownG_form hown
      have RL := hide hrd
      have D5 := hide (D4.out.below hb5)
      have I5 := hide (I4.out.below hb5)
      have L5 := hide (bl_trans L4.out hb5)
      have HLN := hide hln
      have HNN := hide hN
      clear hown hrd hlq hb5 D4 I4 L4 HLM hln hN
      have xy0 : w5.cell? ⟨D, 0, none⟩ = some _ := D5.out.cell rfl
      have xy1 : w5.cell? ⟨D, 1, none⟩ = some _ := D5.out.cell rfl
      have xy2 : w5.cell? ⟨D, 2, none⟩ = some _ := D5.out.cell rfl
      have xy3 : w5.cell? ⟨D, 3, none⟩ = some _ := D5.out.cell rfl
      have xl := D5.out.lt
      have HC1 := crash_any _ c ca cn cc ch w5 I5.out (HSC.out.mono (by decide)) (HCR.out.below L5.out) HCL.out
      rw [crash_settled HVC.out HST.out] at HC1
      have HCA := hide HC1
      clear HC1
      go_wp2_with fail
      refine HCA.out.mono ?_
      rintro e w6 ⟨u, rfl, hu, hb6⟩
      obtain ⟨i1, j1, k1, i2, j2, k2, i3, j3, k3, i4, j4, k4, rfl⟩ := hu.four
      obtain ⟨wb, hwb⟩ : ∃ wb, wb = w6.alloc (.cells [.slice i1 j1 k1, .slice i2 j2 k2, .slice i3 j3 k3, .slice i4 j4 k4].toArray 27) := ⟨_, rfl⟩
      obtain ⟨X, hX⟩ : ∃ X, X = w6.heap.size := ⟨_, rfl⟩
      have hbw : Below w6.heap.size w6 wb := by rw [hwb]; exact bl_alloc (bl_refl w6) _
      have hba := bl_trans hb6 hbw
      have XB := hide (show Blk wb X [.slice i1 j1 k1, .slice i2 j2 k2, .slice i3 j3 k3, .slice i4 j4 k4] 27 by rw [hwb, hX]; exact Blk.new w6 _ _)
      have XI := hide (hu.below hbw)
      have D6 := hide (D5.out.below hba)
      have I6 := hide (I5.out.below hba)
      have R6 := hide (RL.out.below hba)
      have L6 := hide (bl_trans L5.out hba)
      have HXX := hide hX.symm
      have HWB := hide hwb.symm
      clear hwb hX hbw hba hu hb6 D5 I5 RL L5 HCA xy0 xy1 xy2 xy3 xl
      have HLM := list_any _ c wb XI.out (HSC.out.szD (by decide))
      rw [← HLN.out, ← HNN.out] at HLM
      have HLX := hide HLM
      clear HLM
      go_wp2_with fail
      rw [HWB.out, HXX.out]
      clear HWB HXX
      refine HLX.out.mono ?_
      rintro e w7 ⟨u, rfl, hown, hb7⟩
      obtain ⟨mb, mq, rfl, hmq, hrd⟩ := ownG_form hown
      have RM := hide hrd
      have X7 := hide (XB.out.below hb7)
      have J7 := hide (XI.out.below hb7)
      have D7 := hide (D6.out.below hb7)
      have I7 := hide (I6.out.below hb7)
      have R7 := hide (R6.out.below hb7)
      have L7 := hide (bl_trans L6.out hb7)
      clear hown hrd hmq hb7 XB XI D6 I6 R6 L6 HLX
      have HTX := hide (texts_any mb f2 mq lb lq ln w7 HNN.out (by omega) RM.out R7.out)
      go_wp2_with fail
      refine HTX.out.mono ?_
      rintro e w8 ⟨rfl, hb8⟩
      have X8 := hide (X7.out.below hb8)
      have J8 := hide (J7.out.below hb8)
      have D8 := hide (D7.out.below hb8)
      have I8 := hide (I7.out.below hb8)
      have R8 := hide (R7.out.below hb8)
      have L8 := hide (bl_trans L7.out hb8)
      clear hb8 RM X7 J7 D7 I7 R7 L7 HTX
      have xy0 : w8.cell? ⟨D, 0, none⟩ = some _ := D8.out.cell rfl
      have xy1 : w8.cell? ⟨D, 1, none⟩ = some _ := D8.out.cell rfl
      have xy2 : w8.cell? ⟨D, 2, none⟩ = some _ := D8.out.cell rfl
      have xy3 : w8.cell? ⟨D, 3, none⟩ = some _ := D8.out.cell rfl
      have xl := D8.out.lt
      go_wp2_with fail
      clear xy0 xy1 xy2 xy3 xl
      go_loopw [63] (fun kv wr => ∃ (k : Nat), kv = .int .i64 (k : Int) ∧ k ≤ f2 ∧ Hid (Blk wr X [.slice i1 j1 k1, .slice i2 j2 k2, .slice i3 j3 k3, .slice i4 j4 k4] 27) ∧ Hid (IsD wr (.agg #[.slice i1 j1 k1, .slice i2 j2 k2, .slice i3 j3 k3, .slice i4 j4 k4]) c) ∧ Hid (Blk wr D [.slice e1 f1 g1, .slice e2 f2 g2, .slice e3 f3 g3, .slice e4 f4 g4] 27) ∧ Hid (IsD wr (.agg #[.slice e1 f1 g1, .slice e2 f2 g2, .slice e3 f3 g3, .slice e4 f4 g4]) c) ∧ Hid (Rd wr lb (encS ln)) ∧ Hid (Below w.heap.size w wr)) (fun kv _ => f2 - (intOf kv).toNat)
      case atStart => exact ⟨0, rfl, by omega, X8, J8, D8, I8, R8, L8⟩
      case round =>
        clear X8 J8 D8 I8 R8 L8
        obtain ⟨kk, rfl, hkk, XB, XI, DB, DI, RL, LB⟩ := hrel
        by_cases hlt2 : kk < f2
        · obtain ⟨s, hs⟩ : ∃ s, ln[kk]? = some s := ⟨_, List.getElem?_eq_getElem (by rw [← HNN.out]; exact hlt2)⟩
          obtain ⟨gb, o, rfl, hgl, e0⟩ := RL.out.at_ (show (encS ln)[kk]? = some (.string (bstr s)) by rw [encS_get, hs]; rfl)
          have hkn2 : (kk : Int) < (f2 : Int) := by omega
          have h0 : (readM c s).2 = 0 := read_has HVC.out (has_get HVC.out (by rw [← HLN.out]; exact hs))
          have HR1 := hide (fun (wx : World) (hb : Below wr.heap.size wr wx) => read_any _ c s wx (DI.out.below hb) (HSC.out.szD (by decide)))
          have HR2 := hide (fun (wx : World) (hb : Below wr.heap.size wr wx) => read_any _ c s wx (XI.out.below hb) (HSC.out.szD (by decide)))
          rw [h0] at HR1 HR2
          obtain ⟨rs, hrs⟩ : ∃ rs, rs = (readM c s).1 := ⟨_, rfl⟩
          rw [← hrs] at HR1 HR2
          have xy0 : wr.cell? ⟨D, 0, none⟩ = some _ := DB.out.cell rfl
          have xy1 : wr.cell? ⟨D, 1, none⟩ = some _ := DB.out.cell rfl
          have xy2 : wr.cell? ⟨D, 2, none⟩ = some _ := DB.out.cell rfl
          have xy3 : wr.cell? ⟨D, 3, none⟩ = some _ := DB.out.cell rfl
          have xl := DB.out.lt
          clear hs h0 hrs
          go_wp2_with fail
          refine (HR1.out wr (bl_refl wr)).mono ?_
          rintro e w4 ⟨rfl, hb4⟩
          have HB4 := hide hb4
          have X4 := hide (XB.out.below hb4)
          have yy0 : w4.cell? ⟨X, 0, none⟩ = some _ := X4.out.cell rfl
          have yy1 : w4.cell? ⟨X, 1, none⟩ = some _ := X4.out.cell rfl
          have yy2 : w4.cell? ⟨X, 2, none⟩ = some _ := X4.out.cell rfl
          have yy3 : w4.cell? ⟨X, 3, none⟩ = some _ := X4.out.cell rfl
          have yl := X4.out.lt
          clear hb4 xy0 xy1 xy2 xy3 xl e0
          go_wp2_with fail
          refine (HR2.out w4 HB4.out).mono ?_
          rintro e w5 ⟨rfl, hb5⟩
          have HBA := bl_trans HB4.out hb5
          have X5 := hide (XB.out.below HBA)
          have J5 := hide (XI.out.below HBA)
          have D5 := hide (DB.out.below HBA)
          have I5 := hide (DI.out.below HBA)
          have R5 := hide (RL.out.below HBA)
          have L5 := hide (bl_trans LB.out HBA)
          clear hb5 HBA HB4 X4 yy0 yy1 yy2 yy3 yl HR1 HR2 XB XI DB DI RL LB
          go_wp2
          go_roundw
          case rel => exact ⟨kk + 1, by go_num, by omega, X5, J5, D5, I5, R5, L5⟩
          case measure => simp [intOf]; omega
        · obtain rfl : kk = f2 := by omega
          have hkn2 : ¬ (kk : Int) < (kk : Int) := by omega
          go_wp2_with fail
          refine (known_any wr).mono ?_
          rintro e w5 ⟨rfl, hb5⟩
          go_wp2
          go_ret
          exact ⟨rfl, bl_trans LB.out hb5⟩
end diskDurable
end Go.Proofs.Ytjpmfiicbokdcaa
