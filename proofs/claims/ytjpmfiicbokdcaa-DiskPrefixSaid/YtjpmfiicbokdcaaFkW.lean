/- The walk of DiskPrefix. -/
import Derived.Test.YtjpmfiicbokdcaaFiW
import Derived.Test.YtjpmfiicbokdcaaVN
namespace Go.Proofs.Ytjpmfiicbokdcaa
open Go.RowKit
set_option linter.unusedVariables false
set_option linter.unusedSimpArgs false
theorem isD_RE1 {w : World} {a1 a2 a3 a4 : Option Addr} {n1 c1 n2 c2 n3 c3 n4 c4 : Nat} {d : Dsk} (h : IsD w (.agg #[.slice a1 n1 c1, .slice a2 n2 c2, .slice a3 n3 c3, .slice a4 n4 c4]) d) : RE w a1 n1 d.inodes := by
  obtain ⟨x1, y1, z1, x2, y2, z2, x3, y3, z3, x4, y4, z4, he, h1, h2, h3, h4, -⟩ := h.h
  simp at he
  obtain ⟨⟨rfl, rfl, rfl⟩, -⟩ := he
  exact h1
namespace diskPrefix
set_option maxHeartbeats 4000000 in
set_option maxRecDepth 100000 in
theorem walk (a : Option Addr) (len cap : Nat) (z : List Int) (ca : Option Addr) (cn cc : Nat) (cz : List Int) (w : World) (w0 : IsRow .i64 w a len cap z) (v0 : IsRow .i64 w ca cn cc cz) :
    Calls Try.prog 7 #[.slice a len cap, .slice ca cn cc] w fun e w' => e = .returned (.bool true) ∧ Below w.heap.size w w' := by
  obtain ⟨zs, hl, hr, hc, hm, _, _⟩ := w0.ints
  have HL := hide hl.symm
  have HR := hide hr
  clear hl hr w0
  obtain ⟨ch, hcl, hcr, hcc, hcm⟩ := v0.rdK
  have HCL := hide hcl
  have HCR := hide hcr
  clear hcl hcr v0
  go_enter Try.func7, Try.ntmps7
  go_wp2_with fail
  refine (tnew_any a len cap zs w HL.out hc hm HR.out).mono ?_
  rintro e w1 ⟨rfl, ht1, hb1⟩
  have HT1 := hide ht1
  have HB1 := hide hb1
  clear ht1 hb1
  go_wp2_with fail
  refine (build_any w.heap.size 14 14 w1 rfl (by decide) HT1.out).mono ?_
  rintro e w2 ⟨u, d, rfl, hu, hgd, hg2⟩
  obtain ⟨a1, n1, c1, a2, n2, c2, a3, n3, c3, a4, n4, c4, rfl⟩ := hu.four
  obtain ⟨wa, hwa⟩ : ∃ wa, wa = w2.alloc (.cells [.slice a1 n1 c1, .slice a2 n2 c2, .slice a3 n3 c3, .slice a4 n4 c4].toArray 27) := ⟨_, rfl⟩
  obtain ⟨D, hD⟩ : ∃ D, D = w2.heap.size := ⟨_, rfl⟩
  have DB := hide (show Blk wa D [.slice a1 n1 c1, .slice a2 n2 c2, .slice a3 n3 c3, .slice a4 n4 c4] 27 by rw [hwa, hD]; exact Blk.new w2 _ _)
  have DI := hide (show IsD wa _ d by rw [hwa]; exact hu.below (bl_alloc (bl_refl w2) _))
  have LB := hide (show Below w.heap.size w wa by rw [hwa]; exact bl_alloc (bl_tape HB1.out hg2 (Nat.le_refl _)) _)
  have HGD := hide hgd
  have HDD := hide hD.symm
  have HWA := hide hwa.symm
  have hD2 : D < wa.heap.size := DB.out.lt
  clear hu hgd hg2 hwa hD HT1 HB1 hD2
  have HC1 := crash_any _ d ca cn cc ch wa DI.out (HGD.out.2.mono (by decide)) (HCR.out.below LB.out) HCL.out
  obtain ⟨c, hcd⟩ : ∃ c, c = crashM d ch := ⟨_, rfl⟩
  have HVC := hide (show validM c = true by rw [hcd]; exact valid_crash _ _)
  have HSC := hide (show szK 28 c by rw [hcd]; exact crash_szK HGD.out.2 _)
  have HPRE := hide (show ∀ n, hasM c.dir n = true → d.inodes.any (preB (readM c n).1) = true by rw [hcd]; exact fun n h => crash_pre h)
  have HOK := hide (show ∀ x ∈ d.inodes, okI x from valid_okI HGD.out.1)
  rw [← hcd] at HC1
  have HCA := hide HC1
  clear hcd HC1
  go_wp2_with fail
  rw [HWA.out, HDD.out]
  clear HWA HDD
  refine HCA.out.mono ?_
  rintro e w3 ⟨u, rfl, hu, hb3⟩
  obtain ⟨b1, m1, q1, b2, m2, q2, b3, m3, q3, b4, m4, q4, rfl⟩ := hu.four
  obtain ⟨wb, hwb⟩ : ∃ wb, wb = w3.alloc (.cells [.slice b1 m1 q1, .slice b2 m2 q2, .slice b3 m3 q3, .slice b4 m4 q4].toArray 27) := ⟨_, rfl⟩
  obtain ⟨X, hX⟩ : ∃ X, X = w3.heap.size := ⟨_, rfl⟩
  have hbw : Below w3.heap.size w3 wb := by rw [hwb]; exact bl_alloc (bl_refl w3) _
  have hba := bl_trans hb3 hbw
  have XB := hide (show Blk wb X [.slice b1 m1 q1, .slice b2 m2 q2, .slice b3 m3 q3, .slice b4 m4 q4] 27 by rw [hwb, hX]; exact Blk.new w3 _ _)
  have XI := hide (hu.below hbw)
  have D3 := hide (DB.out.below hba)
  have R3 := hide ((isD_RE1 DI.out).below hba)
  have L3 := hide (bl_trans LB.out hba)
  have HXX := hide hX.symm
  have HWB := hide hwb.symm
  have hn1 : n1 ≤ 14 := by rw [(isD_RE1 DI.out).1]; exact HGD.out.2.1
  clear hwb hX hbw hba hu hb3 DB DI LB HCA
  obtain ⟨ln, hln⟩ : ∃ ln, ln = listM c := ⟨_, rfl⟩
  obtain ⟨N, hN⟩ : ∃ N, N = ln.length := ⟨_, rfl⟩
  have hN28 : N ≤ 28 := by
    rw [hN, hln]
    unfold listM
    rw [if_pos HVC.out, List.length_map]
    exact HSC.out.2.1
  have HLM := list_any _ c wb XI.out (HSC.out.szD (by decide))
  rw [← hln, ← hN] at HLM
  have HLX := hide HLM
  have HLN := hide hln
  have HNN := hide hN
  clear hln hN HLM
  go_wp2_with fail
  rw [HWB.out, HXX.out]
  clear HWB HXX
  refine HLX.out.mono ?_
  rintro e w4 ⟨u, rfl, hown, hb4⟩
  obtain ⟨lb, lq, rfl, hlq, hrd⟩ := ownG_form hown
  have RL := hide hrd
  have X4 := hide (XB.out.below hb4)
  have J4 := hide (XI.out.below hb4)
  have D4 := hide (D3.out.below hb4)
  have R4 := hide (R3.out.below hb4)
  have L4 := hide (bl_trans L3.out hb4)
  clear hown hrd hlq hb4 XB XI D3 R3 L3 HLX
  go_wp2_with fail
  go_loopw [23] (fun kv wr => ∃ (k : Nat), kv = .int .i64 (k : Int) ∧ k ≤ N ∧ Hid (Blk wr X [.slice b1 m1 q1, .slice b2 m2 q2, .slice b3 m3 q3, .slice b4 m4 q4] 27) ∧ Hid (IsD wr (.agg #[.slice b1 m1 q1, .slice b2 m2 q2, .slice b3 m3 q3, .slice b4 m4 q4]) c) ∧ Hid (Blk wr D [.slice a1 n1 c1, .slice a2 n2 c2, .slice a3 n3 c3, .slice a4 n4 c4] 27) ∧ Hid (RE wr a1 n1 d.inodes) ∧ Hid (Rd wr lb (encS ln)) ∧ Hid (Below w.heap.size w wr)) (fun kv _ => N - (intOf kv).toNat)
  case atStart => exact ⟨0, rfl, by omega, X4, J4, D4, R4, RL, L4⟩
  case round =>
    clear X4 J4 D4 R4 RL L4
    obtain ⟨k, rfl, hk, XB, XI, DB, RI, RL, LB⟩ := hrel
    by_cases hlt : k < N
    · obtain ⟨n, hn⟩ : ∃ s, ln[k]? = some s := ⟨_, List.getElem?_eq_getElem (by rw [← HNN.out]; exact hlt)⟩
      obtain ⟨gb, o, rfl, hgl, e0⟩ := RL.out.at_ (show (encS ln)[k]? = some (.string (bstr n)) by rw [encS_get, hn]; rfl)
      have hkn : (k : Int) < (N : Int) := by omega
      have hhas := has_get HVC.out (by rw [← HLN.out]; exact hn)
      have h0 : (readM c n).2 = 0 := read_has HVC.out hhas
      have hpre := HPRE.out n hhas
      have HR1 := read_any _ c n wr XI.out (HSC.out.szD (by decide))
      obtain ⟨s, hs⟩ : ∃ s, s = (readM c n).1 := ⟨_, rfl⟩
      rw [h0, ← hs] at HR1
      rw [← hs] at hpre
      have HRA := hide HR1
      have HPR := hide hpre
      have xy0 : wr.cell? ⟨X, 0, none⟩ = some _ := XB.out.cell rfl
      have xy1 : wr.cell? ⟨X, 1, none⟩ = some _ := XB.out.cell rfl
      have xy2 : wr.cell? ⟨X, 2, none⟩ = some _ := XB.out.cell rfl
      have xy3 : wr.cell? ⟨X, 3, none⟩ = some _ := XB.out.cell rfl
      have xl := XB.out.lt
      clear hn hhas h0 hpre HR1 hs
      go_wp2_with fail
      refine HRA.out.mono ?_
      rintro e w5 ⟨rfl, hb5⟩
      have X5 := hide (XB.out.below hb5)
      have J5 := hide (XI.out.below hb5)
      have D5 := hide (DB.out.below hb5)
      have I5 := hide (RI.out.below hb5)
      have R5 := hide (RL.out.below hb5)
      have L5 := hide (bl_trans LB.out hb5)
      clear hb5 XB XI DB RI RL LB HRA xy0 xy1 xy2 xy3 xl e0
      have yy0 : w5.cell? ⟨D, 0, none⟩ = some _ := D5.out.cell rfl
      have yy1 : w5.cell? ⟨D, 1, none⟩ = some _ := D5.out.cell rfl
      have yy2 : w5.cell? ⟨D, 2, none⟩ = some _ := D5.out.cell rfl
      have yy3 : w5.cell? ⟨D, 3, none⟩ = some _ := D5.out.cell rfl
      have yl := D5.out.lt
      go_wp2_with fail
      clear yy0 yy1 yy2 yy3 yl
      go_loopw [11, 36] (fun fv jv wx => ∃ (j : Nat) (fb : Bool), jv = .int .i64 (j : Int) ∧ j ≤ n1 ∧ fv = .bool fb ∧ Hid (fb = (d.inodes.take j).any (preB s)) ∧ Hid (Blk wx X [.slice b1 m1 q1, .slice b2 m2 q2, .slice b3 m3 q3, .slice b4 m4 q4] 27) ∧ Hid (IsD wx (.agg #[.slice b1 m1 q1, .slice b2 m2 q2, .slice b3 m3 q3, .slice b4 m4 q4]) c) ∧ Hid (Blk wx D [.slice a1 n1 c1, .slice a2 n2 c2, .slice a3 n3 c3, .slice a4 n4 c4] 27) ∧ Hid (RE wx a1 n1 d.inodes) ∧ Hid (Rd wx (some ⟨gb, o, none⟩) (encS ln)) ∧ Hid (Below w.heap.size w wx)) (fun _ jv _ => n1 - (intOf jv).toNat)
      case atStart => exact ⟨0, false, rfl, by omega, rfl, hide rfl, X5, J5, D5, I5, R5, L5⟩
      case round =>
        clear X5 J5 D5 I5 R5 L5
        obtain ⟨j, fb, rfl, hj, rfl, HFB, XB, XI, DB, RI, RL, LB⟩ := hrel
        by_cases hlt2 : j < n1
        · obtain ⟨ib, io, xd, xs, rfl, hbl, hx, p0, p1⟩ := RI.out.at_ hlt2
          have hkn2 : (j : Int) < (n1 : Int) := by omega
          have hok := HOK.out _ (List.mem_of_getElem? hx)
          have hFB2 : (fb || preB s (xd, xs)) = (d.inodes.take (j + 1)).any (preB s) := by rw [HFB.out, List.take_add_one, hx]; simp
          have HOX := hide hok
          have HF2 := hide hFB2
          clear hok hFB2 hx HFB
          obtain ⟨wb, hwb⟩ : ∃ wb, wb = wr.alloc (.cells [.string (bstr xd), .int .i64 xs].toArray 33) := ⟨_, rfl⟩
          obtain ⟨Bx, hBx⟩ : ∃ Bx, Bx = wr.heap.size := ⟨_, rfl⟩
          have hbw : Below wr.heap.size wr wb := by rw [hwb]; exact bl_alloc (bl_refl wr) _
          have IB := hide (show Blk wb Bx [.string (bstr xd), .int .i64 xs] 33 by rw [hwb, hBx]; exact Blk.new wr _ _)
          have X6 := hide (XB.out.below hbw)
          have J6 := hide (XI.out.below hbw)
          have D6 := hide (DB.out.below hbw)
          have I6 := hide (RI.out.below hbw)
          have R6 := hide (RL.out.below hbw)
          have L6 := hide (bl_trans LB.out hbw)
          have HBX := hide hBx.symm
          have HWB := hide hwb.symm
          clear hwb hbw hBx XB XI DB RI RL LB
          go_wp2_with fail
          rw [HWB.out, HBX.out]
          clear HWB HBX p0 p1
          have f0 : ∀ wx, CB wb.drew wx → wx.cell? ⟨Bx, 0, none⟩ = some (.string (bstr xd)) := fun wx hC => (IB.out.below hC.below).cell rfl
          have f1 : ∀ wx, CB wb.drew wx → wx.cell? ⟨Bx, 1, none⟩ = some (.int .i64 xs) := fun wx hC => (IB.out.below hC.below).cell rfl
          obtain ⟨hz0, hz1, hz2⟩ := HOX.out
          simp only at hz0 hz1 hz2
          cases fb with
          | true =>
            have HF3 := hide (show true = (d.inodes.take (j + 1)).any (preB s) by rw [← HF2.out]; rfl)
            clear HF2 hz0 hz1 hz2
            refine wp_region_K 28 (by kernel_rfl) (by kernel_rfl) (fun Q HQ => ?_)
            simp only [List.take_succ_cons, List.take_zero, List.map_cons, List.map_nil]
            repeat
              first
              | (refine wpS_skip (b := true) rfl (guard_mk rfl rfl) ?_)
              | (refine wpS_skip (b := false) rfl (guard_mk rfl rfl) ?_)
              | (refine wpS_skipU rfl (guardU_mk rfl rfl) ?_)
              | (first | apply wpS_c rfl | apply wpS_gc rfl (guard_mk rfl rfl)
                 focus
                   intro ev wx hC hx
                   (try simp [Op.operands, Call.operands, opndS, Slot.holds] at hx)
                   go_simp
                   try (first | exact rfl | exact ⟨Below.refl _ _, rfl⟩)
                   done)
              dsimp only [setS, List.set]
            refine wpS_nil (HQ _ fun w7 hC7 => ?_)
            simp only [closeS, List.drop_succ_cons, List.drop_zero]
            have hb7 := hC7.below
            have X7 := hide (X6.out.below hb7)
            have J7 := hide (J6.out.below hb7)
            have D7 := hide (D6.out.below hb7)
            have I7 := hide (I6.out.below hb7)
            have R7 := hide (R6.out.below hb7)
            have L7 := hide (bl_trans L6.out hb7)
            clear hb7 hC7 HQ X6 J6 D6 I6 R6 L6 f0 f1 IB
            go_wp2
            go_roundw
            case rel => exact ⟨j + 1, true, by go_num, by omega, rfl, HF3, X7, J7, D7, I7, R7, L7⟩
            case measure => simp [intOf]; omega
          | false =>
            by_cases hb1 : xs ≤ (s.length : Int)
            · have hb1' : xs ≤ ((bstr s).size : Int) := by rw [bstr_size]; exact hb1
              by_cases hb2 : (s.length : Int) ≤ (xd.length : Int)
              · have hb2' : ((bstr s).size : Int) ≤ ((bstr xd).size : Int) := by rw [bstr_size, bstr_size]; exact hb2
                have hx2 : xs ≤ ((bstr xd).size : Int) := by rw [bstr_size]; exact hz1
                obtain ⟨s1, hs1⟩ : ∃ s1, s1 = s.take xs.toNat := ⟨_, rfl⟩
                obtain ⟨x1, hx1⟩ : ∃ x1, x1 = xd.take xs.toNat := ⟨_, rfl⟩
                have hS1 : (bstr s).extract 0 xs.toNat = bstr s1 := by rw [str_sub rfl, List.drop_zero, hs1]
                have hX1 : (bstr xd).extract 0 xs.toNat = bstr x1 := by rw [str_sub rfl, List.drop_zero, hx1]
                obtain ⟨b3, hb3⟩ : ∃ b3, b3 = (s1 == x1) := ⟨_, rfl⟩
                have HF3 := hide (show b3 = (d.inodes.take (j + 1)).any (preB s) by
                  rw [← HF2.out]
                  unfold preB
                  simp only
                  rw [← hs1, ← hx1, ← hb3, decide_eq_true hb1, decide_eq_true hb2]
                  simp)
                have hb3' := hb3.symm
                clear HF2 hs1 hx1 hb3
                cases b3 with
                | true =>
                  refine wp_region_K 28 (by kernel_rfl) (by kernel_rfl) (fun Q HQ => ?_)
                  simp only [List.take_succ_cons, List.take_zero, List.map_cons, List.map_nil]
                  repeat
                    first
                    | (refine wpS_skip (b := true) rfl (guard_mk rfl rfl) ?_)
                    | (refine wpS_skip (b := false) rfl (guard_mk rfl rfl) ?_)
                    | (refine wpS_skipU rfl (guardU_mk rfl rfl) ?_)
                    | (first | apply wpS_c rfl | apply wpS_gc rfl (guard_mk rfl rfl)
                       focus
                         intro ev wx hC hx
                         (try simp [Op.operands, Call.operands, opndS, Slot.holds] at hx)
                         go_simp
                         try (first | exact rfl | exact ⟨Below.refl _ _, rfl⟩)
                         done)
                    dsimp only [setS, List.set]
                  refine wpS_nil (HQ _ fun w7 hC7 => ?_)
                  simp only [closeS, List.drop_succ_cons, List.drop_zero]
                  have hb7 := hC7.below
                  have X7 := hide (X6.out.below hb7)
                  have J7 := hide (J6.out.below hb7)
                  have D7 := hide (D6.out.below hb7)
                  have I7 := hide (I6.out.below hb7)
                  have R7 := hide (R6.out.below hb7)
                  have L7 := hide (bl_trans L6.out hb7)
                  clear hb7 hC7 HQ X6 J6 D6 I6 R6 L6 f0 f1 IB
                  go_wp2
                  go_roundw
                  case rel => exact ⟨j + 1, true, by go_num, by omega, rfl, HF3, X7, J7, D7, I7, R7, L7⟩
                  case measure => simp [intOf]; omega
                | false =>
                  refine wp_region_K 28 (by kernel_rfl) (by kernel_rfl) (fun Q HQ => ?_)
                  simp only [List.take_succ_cons, List.take_zero, List.map_cons, List.map_nil]
                  repeat
                    first
                    | (refine wpS_skip (b := true) rfl (guard_mk rfl rfl) ?_)
                    | (refine wpS_skip (b := false) rfl (guard_mk rfl rfl) ?_)
                    | (refine wpS_skipU rfl (guardU_mk rfl rfl) ?_)
                    | (first | apply wpS_c rfl | apply wpS_gc rfl (guard_mk rfl rfl)
                       focus
                         intro ev wx hC hx
                         (try simp [Op.operands, Call.operands, opndS, Slot.holds] at hx)
                         go_simp
                         try (first | exact rfl | exact ⟨Below.refl _ _, rfl⟩)
                         done)
                    dsimp only [setS, List.set]
                  refine wpS_nil (HQ _ fun w7 hC7 => ?_)
                  simp only [closeS, List.drop_succ_cons, List.drop_zero]
                  have hb7 := hC7.below
                  have X7 := hide (X6.out.below hb7)
                  have J7 := hide (J6.out.below hb7)
                  have D7 := hide (D6.out.below hb7)
                  have I7 := hide (I6.out.below hb7)
                  have R7 := hide (R6.out.below hb7)
                  have L7 := hide (bl_trans L6.out hb7)
                  clear hb7 hC7 HQ X6 J6 D6 I6 R6 L6 f0 f1 IB
                  go_wp2
                  go_roundw
                  case rel => exact ⟨j + 1, false, by go_num, by omega, rfl, HF3, X7, J7, D7, I7, R7, L7⟩
                  case measure => simp [intOf]; omega
              · have hb2' : ¬ ((bstr s).size : Int) ≤ ((bstr xd).size : Int) := by rw [bstr_size, bstr_size]; exact hb2
                have HF3 := hide (show false = (d.inodes.take (j + 1)).any (preB s) by
                  rw [← HF2.out]
                  unfold preB
                  simp only
                  rw [decide_eq_false hb2]
                  simp)
                clear HF2
                refine wp_region_K 28 (by kernel_rfl) (by kernel_rfl) (fun Q HQ => ?_)
                simp only [List.take_succ_cons, List.take_zero, List.map_cons, List.map_nil]
                repeat
                  first
                  | (refine wpS_skip (b := true) rfl (guard_mk rfl rfl) ?_)
                  | (refine wpS_skip (b := false) rfl (guard_mk rfl rfl) ?_)
                  | (refine wpS_skipU rfl (guardU_mk rfl rfl) ?_)
                  | (first | apply wpS_c rfl | apply wpS_gc rfl (guard_mk rfl rfl)
                     focus
                       intro ev wx hC hx
                       (try simp [Op.operands, Call.operands, opndS, Slot.holds] at hx)
                       go_simp
                       try (first | exact rfl | exact ⟨Below.refl _ _, rfl⟩)
                       done)
                  dsimp only [setS, List.set]
                refine wpS_nil (HQ _ fun w7 hC7 => ?_)
                simp only [closeS, List.drop_succ_cons, List.drop_zero]
                have hb7 := hC7.below
                have X7 := hide (X6.out.below hb7)
                have J7 := hide (J6.out.below hb7)
                have D7 := hide (D6.out.below hb7)
                have I7 := hide (I6.out.below hb7)
                have R7 := hide (R6.out.below hb7)
                have L7 := hide (bl_trans L6.out hb7)
                clear hb7 hC7 HQ X6 J6 D6 I6 R6 L6 f0 f1 IB
                go_wp2
                go_roundw
                case rel => exact ⟨j + 1, false, by go_num, by omega, rfl, HF3, X7, J7, D7, I7, R7, L7⟩
                case measure => simp [intOf]; omega
            · have hb1' : ¬ xs ≤ ((bstr s).size : Int) := by rw [bstr_size]; exact hb1
              have HF3 := hide (show false = (d.inodes.take (j + 1)).any (preB s) by
                rw [← HF2.out]
                unfold preB
                simp only
                rw [decide_eq_false hb1]
                simp)
              clear HF2
              refine wp_region_K 28 (by kernel_rfl) (by kernel_rfl) (fun Q HQ => ?_)
              simp only [List.take_succ_cons, List.take_zero, List.map_cons, List.map_nil]
              repeat
                first
                | (refine wpS_skip (b := true) rfl (guard_mk rfl rfl) ?_)
                | (refine wpS_skip (b := false) rfl (guard_mk rfl rfl) ?_)
                | (refine wpS_skipU rfl (guardU_mk rfl rfl) ?_)
                | (first | apply wpS_c rfl | apply wpS_gc rfl (guard_mk rfl rfl)
                   focus
                     intro ev wx hC hx
                     (try simp [Op.operands, Call.operands, opndS, Slot.holds] at hx)
                     go_simp
                     try (first | exact rfl | exact ⟨Below.refl _ _, rfl⟩)
                     done)
                dsimp only [setS, List.set]
              refine wpS_nil (HQ _ fun w7 hC7 => ?_)
              simp only [closeS, List.drop_succ_cons, List.drop_zero]
              have hb7 := hC7.below
              have X7 := hide (X6.out.below hb7)
              have J7 := hide (J6.out.below hb7)
              have D7 := hide (D6.out.below hb7)
              have I7 := hide (I6.out.below hb7)
              have R7 := hide (R6.out.below hb7)
              have L7 := hide (bl_trans L6.out hb7)
              clear hb7 hC7 HQ X6 J6 D6 I6 R6 L6 f0 f1 IB
              go_wp2
              go_roundw
              case rel => exact ⟨j + 1, false, by go_num, by omega, rfl, HF3, X7, J7, D7, I7, R7, L7⟩
              case measure => simp [intOf]; omega
        · obtain rfl : j = n1 := by omega
          have hkn2 : ¬ (j : Int) < (j : Int) := by omega
          have hf := HFB.out
          rw [RI.out.1, List.take_length, HPR.out] at hf
          subst hf
          go_wp2
          go_roundw
          case rel => exact ⟨k + 1, by go_num, by omega, XB, XI, DB, RI, RL, LB⟩
          case measure => simp [intOf]; omega
    · obtain rfl : k = N := by omega
      have hkn : ¬ (k : Int) < (k : Int) := by omega
      go_wp2_with fail
      refine (known_any wr).mono ?_
      rintro e w5 ⟨rfl, hb5⟩
      go_wp2
      go_ret
      exact ⟨rfl, bl_trans LB.out hb5⟩
end diskPrefix
end Go.Proofs.Ytjpmfiicbokdcaa
