/- The walk of the reference's Apply. -/
import Derived.Test.YtjpmfiicbokdcaaDO
namespace Go.Proofs.Ytjpmfiicbokdcaa
open Go.RowKit
set_option linter.unusedVariables false
set_option linter.unusedSimpArgs false
theorem dirM_all {n : Nat} {l : List Ent} (h : dirM n l = true) : ∀ e ∈ l, 0 ≤ e.2 ∧ e.2 < n := by
  intro e he
  unfold dirM at h
  simp only [Bool.and_eq_true, decide_eq_true_eq, List.all_eq_true] at h
  exact ⟨(h.1.1 e he).1.2, (h.1.1 e he).2⟩
set_option maxHeartbeats 16000000 in
set_option maxRecDepth 100000 in
theorem rapply_any (v : Value) (d : Dsk) (o : DOp) (w : World) (h : IsD w v d) (hs : szD d) (ho : o.2.2.2.length ≤ 140737488355328) :
    Calls Try.prog 23 #[v, oV o] w (AppP w (applyM d o)) := by
  obtain ⟨kd, s, t, dd⟩ := o
  unfold oV
  have HD0 := hide h
  obtain ⟨a1, n1, c1, a2, n2, c2, a3, n3, c3, a4, n4, c4, rfl, h1, h2, h3, h4, g1, g2, g3, g4⟩ := h.h
  have H1 := hide h1
  have H2 := hide h2
  have H3 := hide h3
  have H4 := hide h4
  have G := hide (And.intro g1 (And.intro g2 (And.intro g3 g4)))
  have hn1 : n1 ≤ 100000 := by rw [h1.1]; exact hs.1
  have hn2 : n2 ≤ 100000 := by rw [h2.1]; exact hs.2.1
  obtain ⟨r, hr⟩ : ∃ r, r = applyM d (kd, s, t, dd) := ⟨_, rfl⟩
  have HR := hide hr
  rw [← hr]
  have HV := hide (fun (wx : World) (hb : Below w.heap.size w wx) => rvalidate_any _ d wx (h.below hb) hs)
  have HCP := hide (fun (wx : World) (hb : Below w.heap.size w wx) => rcopied_any a1 n1 c1 a2 n2 c2 a3 n3 c3 a4 n4 c4 d wx (h1.below hb) (h4.below hb) hs)
  have HF := hide (fun (wx : World) (hb : Below w.heap.size w wx) => rfind_any a2 n2 c2 d.dir s wx (h2.below hb) (by omega))
  obtain ⟨er, her⟩ : ∃ er, er = errM d := ⟨_, rfl⟩
  have HER := hide her
  rw [← her] at HV
  obtain ⟨io, hio⟩ : ∃ io, io = inoM d.dir s := ⟨_, rfl⟩
  have HIO := hide hio
  rw [← hio] at HF
  have HS := hide hs
  obtain ⟨i0, hi0, hz0, hz1, hz2⟩ := info_parts info_inode
  obtain ⟨j0, hj0, hy0, hy1, hy2⟩ := info_parts info_op
  clear h h1 h2 h3 h4 hr her hs hio g1 g2 g3 g4
  obtain ⟨W3, hW3⟩ : ∃ W3, W3 = ((w.alloc (.cells [.slice a1 n1 c1, .slice a2 n2 c2, .slice a3 n3 c3, .slice a4 n4 c4].toArray 27)).alloc (.cells [.int .i64 kd, .string (bstr s), .string (bstr t), .string (bstr dd)].toArray 48)).alloc (.cells [.slice none 0 0, .slice none 0 0, .slice none 0 0, .slice none 0 0].toArray 27) := ⟨_, rfl⟩
  have B0 := hide (show Blk W3 w.heap.size [.slice a1 n1 c1, .slice a2 n2 c2, .slice a3 n3 c3, .slice a4 n4 c4] 27 by rw [hW3]; exact ((Blk.new w _ _).alloc _).alloc _)
  have B1 := hide (show Blk W3 (w.heap.size + 1) [.int .i64 kd, .string (bstr s), .string (bstr t), .string (bstr dd)] 48 by rw [hW3]; exact (Blk.newG (by simp) _ _).alloc _)
  have B2 := hide (show Blk W3 (w.heap.size + 1 + 1) [.slice none 0 0, .slice none 0 0, .slice none 0 0, .slice none 0 0] 27 by rw [hW3]; exact Blk.newG (by simp) _ _)
  have HB3 := hide (show Below w.heap.size w W3 by rw [hW3]; exact bl_alloc (bl_alloc (bl_alloc (bl_refl w) _) _) _)
  have HW3 := hide hW3
  clear hW3
  go_enter Try.func23, Try.ntmps23
  go_wp2_with fail
  rw [← HW3.out]
  clear HW3
  refine (HV.out W3 HB3.out).mono ?_
  rintro e w1 ⟨rfl, hb1⟩
  have C0 := hide (B0.out.below hb1)
  have C1 := hide (B1.out.below hb1)
  have C2 := hide (B2.out.below hb1)
  have HB1 := hide (HB3.out.trans (hb1.mono HB3.out.size))
  clear hb1 B0 B1 B2 HB3
  have d0 : w1.cell? ⟨w.heap.size, 0, none⟩ = some _ := C0.out.cell rfl
  have d1 : w1.cell? ⟨w.heap.size, 1, none⟩ = some _ := C0.out.cell rfl
  have d2 : w1.cell? ⟨w.heap.size, 2, none⟩ = some _ := C0.out.cell rfl
  have d3 : w1.cell? ⟨w.heap.size, 3, none⟩ = some _ := C0.out.cell rfl
  have y0 : w1.cell? ⟨w.heap.size + 1 + 1, 0, none⟩ = some _ := C2.out.cell rfl
  have y1 : w1.cell? ⟨w.heap.size + 1 + 1, 1, none⟩ = some _ := C2.out.cell rfl
  have y2 : w1.cell? ⟨w.heap.size + 1 + 1, 2, none⟩ = some _ := C2.out.cell rfl
  have y3 : w1.cell? ⟨w.heap.size + 1 + 1, 3, none⟩ = some _ := C2.out.cell rfl
  have l0 := C0.out.lt
  have l2 := C2.out.lt
  have f0 := C0.out.fr
  have f2 := C2.out.fr
  cases hvd : validM d with
  | false =>
    obtain rfl : er = 9 := by rw [HER.out]; unfold errM; rw [hvd]; rfl
    have hr : r = (.nil, 9) := by rw [HR.out]; unfold applyM; rw [hvd]; rfl
    have HRR := hide hr
    clear hvd hr
    go_wp2
    refine bodyPost_ret (results_cell_tmp_row Try.results23 _ _ (w.heap.size + 1 + 1) 27 _ _ rfl (C2.out.set4 _ _ _ _) Try.underlying27 rfl (by kernel_rfl)) rfl ?_
    exact .no HRR.out rfl (bl_set4 HB1.out (by omega) _ _ _ _)
  | true =>
    obtain rfl : er = 0 := by rw [HER.out]; unfold errM; rw [hvd]; rfl
    have HVD := hide hvd
    clear hvd
    go_wp2_with fail
    refine (HCP.out w1 HB1.out).mono ?_
    rintro e w2 ⟨v1, v4, rfl, ho1, ho4, hap, hb2⟩
    obtain ⟨A1, p1, rfl, hp1, hr1⟩ := ownG_form ho1
    obtain ⟨A4, p4, rfl, hp4, hr4⟩ := ownG_form ho4
    clear hr1 hr4
    have hl2 := hb2.size
    have D0 := hide (C0.out.below hb2)
    have D1 := hide (C1.out.below hb2)
    have D2 := hide (C2.out.below hb2)
    have HO1 := hide (own_baseG ho1 (show w.heap.size + 1 + 1 + 1 ≤ w1.heap.size by omega))
    have HO4 := hide (own_baseG ho4 (show w.heap.size + 1 + 1 + 1 ≤ w1.heap.size by omega))
    have HAP := hide hap
    have HB2 := hide (HB1.out.trans (hb2.mono HB1.out.size))
    have HF2 := hide (HF.out)
    clear ho1 ho4 hap hb2 d0 d1 d2 d3 y0 y1 y2 y3 f0 f2 C0 C1 C2 HB1 hl2 l0 l2
    have l0 := D0.out.lt
    have l2 := D2.out.lt
    have f0 := D0.out.fr
    have f2 := D2.out.fr
    have y0 : w2.cell? ⟨w.heap.size + 1 + 1, 0, none⟩ = some _ := D2.out.cell rfl
    have y1 : w2.cell? ⟨w.heap.size + 1 + 1, 1, none⟩ = some _ := D2.out.cell rfl
    have y2 : w2.cell? ⟨w.heap.size + 1 + 1, 2, none⟩ = some _ := D2.out.cell rfl
    have y3 : w2.cell? ⟨w.heap.size + 1 + 1, 3, none⟩ = some _ := D2.out.cell rfl
    have d0 : w2.cell? ⟨w.heap.size, 0, none⟩ = some _ := D0.out.cell rfl
    have d1 : w2.cell? ⟨w.heap.size, 1, none⟩ = some _ := D0.out.cell rfl
    have d2 : w2.cell? ⟨w.heap.size, 2, none⟩ = some _ := D0.out.cell rfl
    have d3 : w2.cell? ⟨w.heap.size, 3, none⟩ = some _ := D0.out.cell rfl
    have o0 : w2.cell? ⟨w.heap.size + 1, 0, none⟩ = some _ := D1.out.cell rfl
    have o1 : w2.cell? ⟨w.heap.size + 1, 1, none⟩ = some _ := D1.out.cell rfl
    have o2 : w2.cell? ⟨w.heap.size + 1, 2, none⟩ = some _ := D1.out.cell rfl
    have o3 : w2.cell? ⟨w.heap.size + 1, 3, none⟩ = some _ := D1.out.cell rfl
    obtain ⟨W4, hW4⟩ : ∃ W4, W4 = set4 w2 w.heap.size (.slice A1 d.inodes.length p1) (.slice a2 n2 c2) (.slice a3 n3 c3) (.slice A4 d.ops.length p4) := ⟨_, rfl⟩
    have E0 := hide (show Blk W4 w.heap.size _ _ by rw [hW4]; exact D0.out.set4 _ _ _ _)
    have E1 := hide (show Blk W4 (w.heap.size + 1) _ _ by rw [hW4]; exact D1.out.set4ne (by omega) _ _ _ _)
    have E2 := hide (show Blk W4 (w.heap.size + 1 + 1) _ _ by rw [hW4]; exact D2.out.set4ne (by omega) _ _ _ _)
    have HB4 := hide (show Below w.heap.size w W4 by rw [hW4]; exact bl_set4 HB2.out (Nat.le_refl _) _ _ _ _)
    have EO1 := hide (show W4.ownsRow (w.heap.size + 1 + 1 + 1) 33 2 (.slice A1 d.inodes.length p1) d.inodes.length (d.inodes.flatMap encE) by rw [hW4]; exact ownG_set4 HO1.out (own_ne HO1.out (by omega)) _ _ _ _)
    have EO4 := hide (show W4.ownsRow (w.heap.size + 1 + 1 + 1) 48 4 (.slice A4 d.ops.length p4) d.ops.length (d.ops.flatMap encO) by rw [hW4]; exact ownG_set4 HO4.out (own_ne HO4.out (by omega)) _ _ _ _)
    have HW4 := hide (show set4 w2 w.heap.size (.slice A1 d.inodes.length p1) (.slice a2 n2 c2) (.slice a3 n3 c3) (.slice A4 d.ops.length p4) = W4 from hW4.symm)
    clear hW4 HO1 HO4 HB2 D0 D1 D2
    unfold set4 at HW4
    have HDI := hide (((valid_iff d).1 HVD.out).1)
    have hl5 := HS.out
    have hn5 : d.inodes.length ≤ 100000 := hl5.1
    have hn6 : d.ops.length ≤ 100000 := hl5.2.2.2
    clear hl5
    by_cases hk2 : kd = 2
    · subst hk2
      by_cases ht : t = []
      · subst ht
        have HRA := hide (show r = if hasM d.dir s = false then (.nil, 11) else if 1048576 < (d.inodes.getD (inoM d.dir s).toNat ([], 0)).1.length + dd.length then (.nil, 21) else (⟨d.inodes.set (inoM d.dir s).toNat ((d.inodes.getD (inoM d.dir s).toNat ([], 0)).1 ++ dd, (d.inodes.getD (inoM d.dir s).toNat ([], 0)).2), d.dir, d.dur, d.ops⟩, 0) by rw [HR.out]; unfold applyM; rw [HVD.out]; simp [appM, fieldsM])
        clear HR
        go_wp2_with fail
        rw [HW4.out]
        clear HW4 d0 d1 d2 d3 o0 o1 o2 o3 y0 y1 y2 y3 l0 l2 f0 f2
        refine (HF.out W4 HB4.out).mono ?_
        rintro e w5 ⟨rfl, hb5⟩
        have F0 := hide (E0.out.below hb5)
        have F1 := hide (E1.out.below hb5)
        have F2 := hide (E2.out.below hb5)
        have FO1 := hide (ownG_below EO1.out hb5)
        have FO4 := hide (ownG_below EO4.out hb5)
        have HB5 := hide (HB4.out.trans (hb5.mono HB4.out.size))
        clear hb5 E0 E1 E2 EO1 EO4 HB4
        have d0 : w5.cell? ⟨w.heap.size, 0, none⟩ = some _ := F0.out.cell rfl
        have y0 : w5.cell? ⟨w.heap.size + 1 + 1, 0, none⟩ = some _ := F2.out.cell rfl
        have y1 : w5.cell? ⟨w.heap.size + 1 + 1, 1, none⟩ = some _ := F2.out.cell rfl
        have y2 : w5.cell? ⟨w.heap.size + 1 + 1, 2, none⟩ = some _ := F2.out.cell rfl
        have y3 : w5.cell? ⟨w.heap.size + 1 + 1, 3, none⟩ = some _ := F2.out.cell rfl
        have l2 := F2.out.lt
        have f2 := F2.out.fr
        cases hh : hasM d.dir s with
        | false =>
          have hr : r = (.nil, 11) := by rw [HRA.out, if_pos hh]
          have HRR := hide hr
          obtain rfl : io = -1 := by
            rcases ino_has (dir_nn HDI.out) s with h | h
            · rw [hh] at h; exact absurd h.1 (by decide)
            · rw [HIO.out]; exact h.2
          clear hh hr HRA
          go_wp2
          refine bodyPost_ret (results_cell_tmp_row Try.results23 _ _ (w.heap.size + 1 + 1) 27 _ _ rfl (F2.out.set4 _ _ _ _) Try.underlying27 rfl (by kernel_rfl)) rfl ?_
          exact .no HRR.out rfl (bl_set4 HB5.out (by omega) _ _ _ _)
        | true =>
          obtain ⟨hq0, hq1⟩ := ino_lt HDI.out hh
          obtain ⟨j, hj⟩ : ∃ j : Nat, inoM d.dir s = (j : Int) := ⟨_, (Int.toNat_of_nonneg hq0).symm⟩
          obtain rfl : io = (j : Int) := by rw [HIO.out, hj]
          have hjl : j < d.inodes.length := by omega
          obtain ⟨⟨xd, xs⟩, hx⟩ : ∃ e, d.inodes[j]? = some e := ⟨_, List.getElem?_eq_getElem hjl⟩
          have HRB := HRA.out
          rw [hh, if_neg (by decide), hj, Int.toNat_natCast, show d.inodes.getD j ([], 0) = (xd, xs) by rw [List.getD_eq_getElem?_getD, hx]; rfl] at HRB
          simp only [] at HRB
          have HRC := hide HRB
          have HX := hide hx
          have hxl : xd.length ≤ 1048576 := by
            have := ((valid_iff d).1 HVD.out).2.2.2.2.1 j _ hx
            unfold inodeM at this
            simp only [Bool.and_eq_true, decide_eq_true_eq] at this
            exact this.2
          obtain ⟨g1, cur, rfl, hg1, -⟩ := ownG_inv FO1.out (by omega)
          obtain ⟨x0, fx0⟩ := ownG_at FO1.out (flat_get encE_len _ j 0 _ _ hx rfl)
          obtain ⟨x1, fx1⟩ := ownG_at FO1.out (flat_get encE_len _ j 1 _ _ hx rfl)
          have hjn : (j : Int) < (d.inodes.length : Int) := by omega
          clear HRB hx hh hq0 hq1 hj HRA
          rw [Nat.add_zero] at x0 fx0
          go_wp2_with fail
          have HC5 := hide (fun (wx : World) (hC : CB w5.drew wx) => show wx.cell? ⟨g1, j * 2, none⟩ = some (.string (bstr xd)) ∧ wx.cell? ⟨w.heap.size + 1, 3, none⟩ = some (.string (bstr dd)) from ⟨hC.cell x0, (F1.out.below hC.below).cell rfl⟩)
          have ew : IntKind.i64.wrap (((bstr xd).size : Int) + ((bstr dd).size : Int)) = (xd.length : Int) + ((dd : List UInt8).length : Int) := by rw [bstr_size, bstr_size, IntKind.wrap_i64]; omega
          have EW := hide ew
          clear ew
          refine wp_region_K 10 (by kernel_rfl) (by kernel_rfl) (fun Q HQ => ?_)
          simp only [List.take_succ_cons, List.take_zero, List.map_cons, List.map_nil]
          repeat
            first | apply wpS_c rfl | apply wpS_gc rfl (guard_mk rfl rfl)
            focus
              intro ev wx hC hx
              (try simp [Op.operands, Call.operands, opndS, Slot.holds] at hx)
              obtain ⟨k0, k1⟩ := HC5.out wx hC
              go_simp
              try (first | exact rfl | exact ⟨Below.refl _ _, rfl⟩)
              done
            dsimp only [setS, List.set]
          refine wpS_nil (HQ _ fun w6 hC6 => ?_)
          simp only [closeS, List.drop_succ_cons, List.drop_zero, List.drop_nil]
          have hb6 := hC6.below
          have I0 := hide (F0.out.below hb6)
          have I1 := hide (F1.out.below hb6)
          have I2 := hide (F2.out.below hb6)
          have IO1 := hide (ownG_below FO1.out hb6)
          have IO4 := hide (ownG_below FO4.out hb6)
          have HB6 := hide (HB5.out.trans (hb6.mono HB5.out.size))
          clear hb6 hC6 HQ F0 F1 F2 FO1 FO4 HB5 d0 x0 fx0 x1 fx1 y0 y1 y2 y3 l2 f2 HC5
          have y0 : w6.cell? ⟨w.heap.size + 1 + 1, 0, none⟩ = some _ := I2.out.cell rfl
          have y1 : w6.cell? ⟨w.heap.size + 1 + 1, 1, none⟩ = some _ := I2.out.cell rfl
          have y2 : w6.cell? ⟨w.heap.size + 1 + 1, 2, none⟩ = some _ := I2.out.cell rfl
          have y3 : w6.cell? ⟨w.heap.size + 1 + 1, 3, none⟩ = some _ := I2.out.cell rfl
          have l2 := I2.out.lt
          have f2 := I2.out.fr
          by_cases hfu : 1048576 < xd.length + (dd : List UInt8).length
          · have hr : r = (.nil, 21) := by rw [HRC.out, if_pos hfu]
            have HRR := hide hr
            have hfi : (1048576 : Int) < IntKind.i64.wrap (((bstr xd).size : Int) + ((bstr dd).size : Int)) := by rw [EW.out]; omega
            clear hr hfu
            go_wp2
            refine bodyPost_ret (results_cell_tmp_row Try.results23 _ _ (w.heap.size + 1 + 1) 27 _ _ rfl (I2.out.set4 _ _ _ _) Try.underlying27 rfl (by kernel_rfl)) rfl ?_
            exact .no HRR.out rfl (bl_set4 HB6.out (by omega) _ _ _ _)
          · have hr := HRC.out
            rw [if_neg hfu] at hr
            have HRR := hide hr
            have hfi : ¬ (1048576 : Int) < IntKind.i64.wrap (((bstr xd).size : Int) + ((bstr dd).size : Int)) := by rw [EW.out]; omega
            clear hr hfu
            go_wp2_with fail
            clear hfi
            obtain ⟨x0, fx0⟩ := ownG_at IO1.out (flat_get encE_len _ j 0 _ _ HX.out rfl)
            rw [Nat.add_zero] at x0 fx0
            have HC6 := hide (fun (wx : World) (hC : CB w6.drew wx) => show wx.cell? ⟨g1, j * 2, none⟩ = some (.string (bstr xd)) ∧ wx.cell? ⟨w.heap.size + 1, 3, none⟩ = some (.string (bstr dd)) from ⟨hC.cell x0, (I1.out.below hC.below).cell rfl⟩)
            have ey : ¬ (9223372036854775807 < (bstr xd).size + (bstr dd).size) := by rw [bstr_size, bstr_size]; omega
            refine wp_region_K 9 (by kernel_rfl) (by kernel_rfl) (fun Q HQ => ?_)
            simp only [List.take_succ_cons, List.take_zero, List.map_cons, List.map_nil]
            repeat
              first | apply wpS_c rfl | apply wpS_gc rfl (guard_mk rfl rfl)
              focus
                intro ev wx hC hx
                (try simp [Op.operands, Call.operands, opndS, Slot.holds] at hx)
                obtain ⟨k0, k1⟩ := HC6.out wx hC
                go_simp
                try (first | exact rfl | exact ⟨Below.refl _ _, rfl⟩)
                done
              dsimp only [setS, List.set]
            refine wpS_nil (HQ _ fun w7 hC7 => ?_)
            simp only [closeS, List.drop_succ_cons, List.drop_zero, List.drop_nil]
            have hb7 := hC7.below
            have J0 := hide (I0.out.below hb7)
            have J1 := hide (I1.out.below hb7)
            have J2 := hide (I2.out.below hb7)
            have JO1 := hide (ownG_below IO1.out hb7)
            have JO4 := hide (ownG_below IO4.out hb7)
            have HB7 := hide (HB6.out.trans (hb7.mono HB6.out.size))
            clear hb7 hC7 HQ I0 I1 I2  IO1 IO4 HB6 x0 fx0 y0 y1 y2 y3 l2 f2 HC6 ey
            obtain ⟨x0, fx0⟩ := ownG_at JO1.out (flat_get encE_len _ j 0 _ _ HX.out rfl)
            rw [Nat.add_zero] at x0 fx0
            have d0 : w7.cell? ⟨w.heap.size, 0, none⟩ = some _ := J0.out.cell rfl
            have d1 : w7.cell? ⟨w.heap.size, 1, none⟩ = some _ := J0.out.cell rfl
            have d2 : w7.cell? ⟨w.heap.size, 2, none⟩ = some _ := J0.out.cell rfl
            have d3 : w7.cell? ⟨w.heap.size, 3, none⟩ = some _ := J0.out.cell rfl
            have y0 : w7.cell? ⟨w.heap.size + 1 + 1, 0, none⟩ = some _ := J2.out.cell rfl
            have y1 : w7.cell? ⟨w.heap.size + 1 + 1, 1, none⟩ = some _ := J2.out.cell rfl
            have y2 : w7.cell? ⟨w.heap.size + 1 + 1, 2, none⟩ = some _ := J2.out.cell rfl
            have y3 : w7.cell? ⟨w.heap.size + 1 + 1, 3, none⟩ = some _ := J2.out.cell rfl
            have o0 : w7.cell? ⟨w.heap.size + 1, 0, none⟩ = some _ := J1.out.cell rfl
            obtain ⟨x1, fx1⟩ := ownG_at JO1.out (flat_get encE_len _ j 1 _ _ HX.out rfl)
            have l2 := J2.out.lt
            have f2 := J2.out.fr
            go_wp2
            rw [bstr_app]
            refine bodyPost_ret (results_cell_tmp_row Try.results23 _ _ (w.heap.size + 1 + 1) 27 _ _ rfl ((J2.out.setne (by omega) _ _).set4 _ _ _ _) Try.underlying27 rfl (by kernel_rfl)) rfl ?_
            have KO1 := ownG_set JO1.out (j * 2) (.string (bstr (xd ++ dd)))
            rw [flat_set0 _ j _ (xd ++ dd) HX.out] at KO1
            have hbF := bl_set4 (bl_setG HB7.out (show w.heap.size ≤ g1 by omega) (j * 2) (.string (bstr (xd ++ dd)))) (show w.heap.size ≤ w.heap.size + 1 + 1 by omega) (.slice (some ⟨g1, 0, none⟩) d.inodes.length p1) (.slice a2 n2 c2) (.slice a3 n3 c3) (.slice A4 d.ops.length p4)
            have KO4 := ownG_setne JO4.out (HAP.out g1 rfl) (j * 2) (.string (bstr (xd ++ dd)))
            exact .ok HRR.out rfl (isD_own (ownG_set4 KO1 (own_ne KO1 (by omega)) _ _ _ _) (by simp) (H2.out.below hbF) (H3.out.below hbF) (ownG_set4 KO4 (own_ne KO4 (by omega)) _ _ _ _) rfl G.out.2.1 G.out.2.2.1) hbF
      · have ht' : (t == []) = false := by simpa using ht
        have hr : r = (.nil, 1) := by rw [HR.out]; unfold applyM; rw [HVD.out]; simp [appM, fieldsM, ht']
        have HRR := hide hr
        clear hr ht
        go_wp2
        rw [HW4.out]
        refine bodyPost_ret (results_cell_tmp_row Try.results23 _ _ (w.heap.size + 1 + 1) 27 _ _ rfl (E2.out.set4 _ _ _ _) Try.underlying27 rfl (by kernel_rfl)) rfl ?_
        exact .no HRR.out rfl (bl_set4 HB4.out (by omega) _ _ _ _)
    · by_cases hk3 : kd = 3
      · subst hk3
        clear hk2
        by_cases ht : t = []
        · subst ht
          by_cases hdd : dd = []
          · subst hdd
            have HRA := hide (show r = if hasM d.dir s = false then (.nil, 11) else if 1048576 < (d.inodes.getD (inoM d.dir s).toNat ([], 0)).1.length + ([] : List UInt8).length then (.nil, 21) else (⟨d.inodes.set (inoM d.dir s).toNat ((d.inodes.getD (inoM d.dir s).toNat ([], 0)).1, (((d.inodes.getD (inoM d.dir s).toNat ([], 0)).1.length : Nat) : Int)), d.dir, d.dur, d.ops⟩, 0) by
              rw [HR.out]; unfold applyM; rw [HVD.out]
              by_cases hh : hasM d.dir s = false
              · simp [appM, fieldsM, hh]
              · have hh' : hasM d.dir s = true := by simpa using hh
                obtain ⟨hq0, hq1⟩ := ino_lt HDI.out hh'
                have hxl : (d.inodes.getD (inoM d.dir s).toNat ([], 0)).1.length ≤ 1048576 := by
                  have hx : d.inodes[(inoM d.dir s).toNat]? = some (d.inodes.getD (inoM d.dir s).toNat ([], 0)) := by
                    rw [List.getD_eq_getElem?_getD, List.getElem?_eq_getElem (by omega)]; rfl
                  have := ((valid_iff d).1 HVD.out).2.2.2.2.1 _ _ hx
                  unfold inodeM at this
                  simp only [Bool.and_eq_true, decide_eq_true_eq] at this
                  exact this.2
                rw [if_neg hh, if_neg (show ¬ 1048576 < (d.inodes.getD (inoM d.dir s).toNat ([], 0)).1.length + ([] : List UInt8).length by rw [List.length_nil]; omega)]
                simp [appM, fieldsM, hh'])
            clear HR
            go_wp2_with fail
            rw [HW4.out]
            clear HW4 d0 d1 d2 d3 o0 o1 o2 o3 y0 y1 y2 y3 l0 l2 f0 f2
            refine (HF.out W4 HB4.out).mono ?_
            rintro e w5 ⟨rfl, hb5⟩
            have F0 := hide (E0.out.below hb5)
            have F1 := hide (E1.out.below hb5)
            have F2 := hide (E2.out.below hb5)
            have FO1 := hide (ownG_below EO1.out hb5)
            have FO4 := hide (ownG_below EO4.out hb5)
            have HB5 := hide (HB4.out.trans (hb5.mono HB4.out.size))
            clear hb5 E0 E1 E2 EO1 EO4 HB4
            have d0 : w5.cell? ⟨w.heap.size, 0, none⟩ = some _ := F0.out.cell rfl
            have y0 : w5.cell? ⟨w.heap.size + 1 + 1, 0, none⟩ = some _ := F2.out.cell rfl
            have y1 : w5.cell? ⟨w.heap.size + 1 + 1, 1, none⟩ = some _ := F2.out.cell rfl
            have y2 : w5.cell? ⟨w.heap.size + 1 + 1, 2, none⟩ = some _ := F2.out.cell rfl
            have y3 : w5.cell? ⟨w.heap.size + 1 + 1, 3, none⟩ = some _ := F2.out.cell rfl
            have l2 := F2.out.lt
            have f2 := F2.out.fr
            cases hh : hasM d.dir s with
            | false =>
              have hr : r = (.nil, 11) := by rw [HRA.out, if_pos hh]
              have HRR := hide hr
              obtain rfl : io = -1 := by
                rcases ino_has (dir_nn HDI.out) s with h | h
                · rw [hh] at h; exact absurd h.1 (by decide)
                · rw [HIO.out]; exact h.2
              clear hh hr HRA
              go_wp2
              refine bodyPost_ret (results_cell_tmp_row Try.results23 _ _ (w.heap.size + 1 + 1) 27 _ _ rfl (F2.out.set4 _ _ _ _) Try.underlying27 rfl (by kernel_rfl)) rfl ?_
              exact .no HRR.out rfl (bl_set4 HB5.out (by omega) _ _ _ _)
            | true =>
              obtain ⟨hq0, hq1⟩ := ino_lt HDI.out hh
              obtain ⟨j, hj⟩ : ∃ j : Nat, inoM d.dir s = (j : Int) := ⟨_, (Int.toNat_of_nonneg hq0).symm⟩
              obtain rfl : io = (j : Int) := by rw [HIO.out, hj]
              have hjl : j < d.inodes.length := by omega
              obtain ⟨⟨xd, xs⟩, hx⟩ : ∃ e, d.inodes[j]? = some e := ⟨_, List.getElem?_eq_getElem hjl⟩
              have HRB := HRA.out
              rw [hh, if_neg (by decide), hj, Int.toNat_natCast, show d.inodes.getD j ([], 0) = (xd, xs) by rw [List.getD_eq_getElem?_getD, hx]; rfl] at HRB
              simp only [] at HRB
              have HRC := hide HRB
              have HX := hide hx
              have hxl : xd.length ≤ 1048576 := by
                have := ((valid_iff d).1 HVD.out).2.2.2.2.1 j _ hx
                unfold inodeM at this
                simp only [Bool.and_eq_true, decide_eq_true_eq] at this
                exact this.2
              obtain ⟨g1, cur, rfl, hg1, -⟩ := ownG_inv FO1.out (by omega)
              obtain ⟨x0, fx0⟩ := ownG_at FO1.out (flat_get encE_len _ j 0 _ _ hx rfl)
              obtain ⟨x1, fx1⟩ := ownG_at FO1.out (flat_get encE_len _ j 1 _ _ hx rfl)
              have hjn : (j : Int) < (d.inodes.length : Int) := by omega
              clear HRB hx hh hq0 hq1 hj HRA
              rw [Nat.add_zero] at x0 fx0
              go_wp2_with fail
              have HC5 := hide (fun (wx : World) (hC : CB w5.drew wx) => show wx.cell? ⟨g1, j * 2, none⟩ = some (.string (bstr xd)) ∧ wx.cell? ⟨w.heap.size + 1, 3, none⟩ = some (.string (bstr [])) from ⟨hC.cell x0, (F1.out.below hC.below).cell rfl⟩)
              have ew : IntKind.i64.wrap (((bstr xd).size : Int) + ((bstr []).size : Int)) = (xd.length : Int) + (([] : List UInt8).length : Int) := by rw [bstr_size, bstr_size, IntKind.wrap_i64]; omega
              have EW := hide ew
              clear ew
              refine wp_region_K 10 (by kernel_rfl) (by kernel_rfl) (fun Q HQ => ?_)
              simp only [List.take_succ_cons, List.take_zero, List.map_cons, List.map_nil]
              repeat
                first | apply wpS_c rfl | apply wpS_gc rfl (guard_mk rfl rfl)
                focus
                  intro ev wx hC hx
                  (try simp [Op.operands, Call.operands, opndS, Slot.holds] at hx)
                  obtain ⟨k0, k1⟩ := HC5.out wx hC
                  go_simp
                  try (first | exact rfl | exact ⟨Below.refl _ _, rfl⟩)
                  done
                dsimp only [setS, List.set]
              refine wpS_nil (HQ _ fun w6 hC6 => ?_)
              simp only [closeS, List.drop_succ_cons, List.drop_zero, List.drop_nil]
              have hb6 := hC6.below
              have I0 := hide (F0.out.below hb6)
              have I1 := hide (F1.out.below hb6)
              have I2 := hide (F2.out.below hb6)
              have IO1 := hide (ownG_below FO1.out hb6)
              have IO4 := hide (ownG_below FO4.out hb6)
              have HB6 := hide (HB5.out.trans (hb6.mono HB5.out.size))
              clear hb6 hC6 HQ F0 F1 F2 FO1 FO4 HB5 d0 x0 fx0 x1 fx1 y0 y1 y2 y3 l2 f2 HC5
              have y0 : w6.cell? ⟨w.heap.size + 1 + 1, 0, none⟩ = some _ := I2.out.cell rfl
              have y1 : w6.cell? ⟨w.heap.size + 1 + 1, 1, none⟩ = some _ := I2.out.cell rfl
              have y2 : w6.cell? ⟨w.heap.size + 1 + 1, 2, none⟩ = some _ := I2.out.cell rfl
              have y3 : w6.cell? ⟨w.heap.size + 1 + 1, 3, none⟩ = some _ := I2.out.cell rfl
              have l2 := I2.out.lt
              have f2 := I2.out.fr
              by_cases hfu : 1048576 < xd.length + ([] : List UInt8).length
              · have hr : r = (.nil, 21) := by rw [HRC.out, if_pos hfu]
                have HRR := hide hr
                have hfi : (1048576 : Int) < IntKind.i64.wrap (((bstr xd).size : Int) + ((bstr []).size : Int)) := by rw [EW.out]; omega
                clear hr hfu
                go_wp2
                refine bodyPost_ret (results_cell_tmp_row Try.results23 _ _ (w.heap.size + 1 + 1) 27 _ _ rfl (I2.out.set4 _ _ _ _) Try.underlying27 rfl (by kernel_rfl)) rfl ?_
                exact .no HRR.out rfl (bl_set4 HB6.out (by omega) _ _ _ _)
              · have hr := HRC.out
                rw [if_neg hfu] at hr
                have HRR := hide hr
                have hfi : ¬ (1048576 : Int) < IntKind.i64.wrap (((bstr xd).size : Int) + ((bstr []).size : Int)) := by rw [EW.out]; omega
                clear hr hfu
                go_wp2_with fail
                clear hfi
                obtain ⟨x0, fx0⟩ := ownG_at IO1.out (flat_get encE_len _ j 0 _ _ HX.out rfl)
                rw [Nat.add_zero] at x0 fx0
                have HC6 := hide (fun (wx : World) (hC : CB w6.drew wx) => show wx.cell? ⟨g1, j * 2, none⟩ = some (.string (bstr xd)) ∧ wx.cell? ⟨w.heap.size + 1, 3, none⟩ = some (.string (bstr [])) from ⟨hC.cell x0, (I1.out.below hC.below).cell rfl⟩)
                have ey : ¬ (9223372036854775807 < (bstr xd).size + (bstr []).size) := by rw [bstr_size, bstr_size]; omega
                refine wp_region_K 9 (by kernel_rfl) (by kernel_rfl) (fun Q HQ => ?_)
                simp only [List.take_succ_cons, List.take_zero, List.map_cons, List.map_nil]
                repeat
                  first | apply wpS_c rfl | apply wpS_gc rfl (guard_mk rfl rfl)
                  focus
                    intro ev wx hC hx
                    (try simp [Op.operands, Call.operands, opndS, Slot.holds] at hx)
                    obtain ⟨k0, k1⟩ := HC6.out wx hC
                    go_simp
                    try (first | exact rfl | exact ⟨Below.refl _ _, rfl⟩)
                    done
                  dsimp only [setS, List.set]
                refine wpS_nil (HQ _ fun w7 hC7 => ?_)
                simp only [closeS, List.drop_succ_cons, List.drop_zero, List.drop_nil]
                have hb7 := hC7.below
                have J0 := hide (I0.out.below hb7)
                have J1 := hide (I1.out.below hb7)
                have J2 := hide (I2.out.below hb7)
                have JO1 := hide (ownG_below IO1.out hb7)
                have JO4 := hide (ownG_below IO4.out hb7)
                have HB7 := hide (HB6.out.trans (hb7.mono HB6.out.size))
                clear hb7 hC7 HQ I0 I1 I2  IO1 IO4 HB6 x0 fx0 y0 y1 y2 y3 l2 f2 HC6 ey
                obtain ⟨x0, fx0⟩ := ownG_at JO1.out (flat_get encE_len _ j 0 _ _ HX.out rfl)
                rw [Nat.add_zero] at x0 fx0
                have d0 : w7.cell? ⟨w.heap.size, 0, none⟩ = some _ := J0.out.cell rfl
                have d1 : w7.cell? ⟨w.heap.size, 1, none⟩ = some _ := J0.out.cell rfl
                have d2 : w7.cell? ⟨w.heap.size, 2, none⟩ = some _ := J0.out.cell rfl
                have d3 : w7.cell? ⟨w.heap.size, 3, none⟩ = some _ := J0.out.cell rfl
                have y0 : w7.cell? ⟨w.heap.size + 1 + 1, 0, none⟩ = some _ := J2.out.cell rfl
                have y1 : w7.cell? ⟨w.heap.size + 1 + 1, 1, none⟩ = some _ := J2.out.cell rfl
                have y2 : w7.cell? ⟨w.heap.size + 1 + 1, 2, none⟩ = some _ := J2.out.cell rfl
                have y3 : w7.cell? ⟨w.heap.size + 1 + 1, 3, none⟩ = some _ := J2.out.cell rfl
                have o0 : w7.cell? ⟨w.heap.size + 1, 0, none⟩ = some _ := J1.out.cell rfl
                obtain ⟨x1, fx1⟩ := ownG_at JO1.out (flat_get encE_len _ j 1 _ _ HX.out rfl)
                have l2 := J2.out.lt
                have f2 := J2.out.fr
                go_wp2
                rw [bstr_app, List.append_nil, show ((bstr xd).size : Int) + ((bstr []).size : Int) = (xd.length : Int) by rw [bstr_size, bstr_size]; simp]
                refine bodyPost_ret (results_cell_tmp_row Try.results23 _ _ (w.heap.size + 1 + 1) 27 _ _ rfl (((J2.out.setne (by omega) _ _).setne (by omega) _ _).set4 _ _ _ _) Try.underlying27 rfl (by kernel_rfl)) rfl ?_
                have KO0 := ownG_set JO1.out (j * 2) (.string (bstr xd))
                rw [flat_set0 _ j _ xd HX.out] at KO0
                have KO1 := ownG_set KO0 (j * 2 + 1) (.int .i64 (xd.length : Int))
                rw [flat_set1 _ j (xd, xs) _ (by rw [List.getElem?_set_self hjl]), List.set_set] at KO1
                have hbF := bl_set4 (bl_setG (bl_setG HB7.out (show w.heap.size ≤ g1 by omega) (j * 2) (.string (bstr xd))) (show w.heap.size ≤ g1 by omega) (j * 2 + 1) (.int .i64 (xd.length : Int))) (show w.heap.size ≤ w.heap.size + 1 + 1 by omega) (.slice (some ⟨g1, 0, none⟩) d.inodes.length p1) (.slice a2 n2 c2) (.slice a3 n3 c3) (.slice A4 d.ops.length p4)
                have KO4 := ownG_setne (ownG_setne JO4.out (HAP.out g1 rfl) (j * 2) (.string (bstr xd))) (HAP.out g1 rfl) (j * 2 + 1) (.int .i64 (xd.length : Int))
                exact .ok HRR.out rfl (isD_own (ownG_set4 KO1 (own_ne KO1 (by omega)) _ _ _ _) (by simp) (H2.out.below hbF) (H3.out.below hbF) (ownG_set4 KO4 (own_ne KO4 (by omega)) _ _ _ _) rfl G.out.2.1 G.out.2.2.1) hbF
          · have hd' : (dd == []) = false := by simpa using hdd
            have hr : r = (.nil, 1) := by rw [HR.out]; unfold applyM; rw [HVD.out]; simp [appM, fieldsM, hdd]
            have HRR := hide hr
            clear hr hdd
            go_wp2
            rw [HW4.out]
            refine bodyPost_ret (results_cell_tmp_row Try.results23 _ _ (w.heap.size + 1 + 1) 27 _ _ rfl (E2.out.set4 _ _ _ _) Try.underlying27 rfl (by kernel_rfl)) rfl ?_
            exact .no HRR.out rfl (bl_set4 HB4.out (by omega) _ _ _ _)
        · have ht' : (t == []) = false := by simpa using ht
          have hr : r = (.nil, 1) := by rw [HR.out]; unfold applyM; rw [HVD.out]; simp [appM, fieldsM, ht']
          have HRR := hide hr
          clear hr ht
          go_wp2
          rw [HW4.out]
          refine bodyPost_ret (results_cell_tmp_row Try.results23 _ _ (w.heap.size + 1 + 1) 27 _ _ rfl (E2.out.set4 _ _ _ _) Try.underlying27 rfl (by kernel_rfl)) rfl ?_
          exact .no HRR.out rfl (bl_set4 HB4.out (by omega) _ _ _ _)
      · by_cases hk6 : kd = 6
        · subst hk6
          clear hk2 hk3
          by_cases hall : s = [] ∧ t = [] ∧ dd = []
          · obtain ⟨rfl, rfl, rfl⟩ := hall
            have hr : r = (setM d, 0) := by rw [HR.out]; unfold applyM; rw [HVD.out]; simp [appM, fieldsM]
            have HRR := hide hr
            clear hr
            have HST := hide (rsettle_any _ d W4 (isD_own EO1.out rfl (H2.out.below HB4.out) (H3.out.below HB4.out) EO4.out rfl G.out.2.1 G.out.2.2.1) HS.out (fun e he => (dirM_all HDI.out) e he))
            go_wp2_with fail
            rw [HW4.out]
            clear HW4 d0 d1 d2 d3 o0 o1 o2 o3 y0 y1 y2 y3 l0 l2 f0 f2
            refine HST.out.mono ?_
            rintro e w5 ⟨u, rfl, hu, hb5⟩
            obtain ⟨b1, m1, q1, b2, m2, q2, b3, m3, q3, b4, m4, q4, rfl, -⟩ := hu.h
            have HU := hide hu
            have F2 := hide (E2.out.below hb5)
            have HB5 := hide (HB4.out.trans (hb5.mono HB4.out.size))
            clear hb5 hu
            have y0 : w5.cell? ⟨w.heap.size + 1 + 1, 0, none⟩ = some _ := F2.out.cell rfl
            have y1 : w5.cell? ⟨w.heap.size + 1 + 1, 1, none⟩ = some _ := F2.out.cell rfl
            have y2 : w5.cell? ⟨w.heap.size + 1 + 1, 2, none⟩ = some _ := F2.out.cell rfl
            have y3 : w5.cell? ⟨w.heap.size + 1 + 1, 3, none⟩ = some _ := F2.out.cell rfl
            have l2 := F2.out.lt
            have f2 := F2.out.fr
            go_wp2
            refine bodyPost_ret (results_cell_tmp_row Try.results23 _ _ (w.heap.size + 1 + 1) 27 _ _ rfl (F2.out.set4 _ _ _ _) Try.underlying27 rfl (by kernel_rfl)) rfl ?_
            exact .ok HRR.out rfl (HU.out.set4 F2.out (allSl4 _ _ _ _ _ _ _ _ _ _ _ _) rfl rfl rfl) (bl_set4 HB5.out (by omega) _ _ _ _)
          · have hr : r = (.nil, 1) := by rw [HR.out]; unfold applyM; rw [HVD.out]; simp only [appM, fieldsM]; simp; intro h1 h2 h3; exact absurd ⟨h1, h2, h3⟩ hall
            have HRR := hide hr
            have hall' : (s == [] && t == [] && dd == []) = false := by rw [Bool.eq_false_iff]; intro h; simp at h; exact hall ⟨h.1.1, h.1.2, h.2⟩
            clear hr hall
            cases hs1 : s == [] with
            | false =>
              clear hall'
              go_wp2
              rw [HW4.out]
              refine bodyPost_ret (results_cell_tmp_row Try.results23 _ _ (w.heap.size + 1 + 1) 27 _ _ rfl (E2.out.set4 _ _ _ _) Try.underlying27 rfl (by kernel_rfl)) rfl ?_
              exact .no HRR.out rfl (bl_set4 HB4.out (by omega) _ _ _ _)
            | true =>
              cases hs2 : t == [] with
              | false =>
                clear hall'
                go_wp2
                rw [HW4.out]
                refine bodyPost_ret (results_cell_tmp_row Try.results23 _ _ (w.heap.size + 1 + 1) 27 _ _ rfl (E2.out.set4 _ _ _ _) Try.underlying27 rfl (by kernel_rfl)) rfl ?_
                exact .no HRR.out rfl (bl_set4 HB4.out (by omega) _ _ _ _)
              | true =>
                have hs3 : (dd == []) = false := by rw [hs1, hs2] at hall'; simpa using hall'
                clear hall'
                go_wp2
                rw [HW4.out]
                refine bodyPost_ret (results_cell_tmp_row Try.results23 _ _ (w.heap.size + 1 + 1) 27 _ _ rfl (E2.out.set4 _ _ _ _) Try.underlying27 rfl (by kernel_rfl)) rfl ?_
                exact .no HRR.out rfl (bl_set4 HB4.out (by omega) _ _ _ _)
        · have hk2' : (kd == 2) = false := by simpa using hk2
          have hk3' : (kd == 3) = false := by simpa using hk3
          have hk6' : (kd == 6) = false := by simpa using hk6
          obtain ⟨⟨l2', er⟩, hst⟩ : ∃ q, q = stepM d.dir (kd, s, t, dd) d.inodes.length := ⟨_, rfl⟩
          have HRA := hide (show r = if er ≠ 0 then (.nil, er) else (⟨if kd = 1 then d.inodes ++ [([], 0)] else d.inodes, l2', d.dur, d.ops ++ [(kd, s, t, dd)]⟩, 0) by
            by_cases hfd : fieldsM (kd, s, t, dd) = false
            · have he1 : (l2', er) = ([], 1) := by
                rw [hst]; unfold fieldsM at hfd; unfold stepM
                simp only [hk2, hk3, hk6] at hfd ⊢
                by_cases h1 : kd = 1
                · subst h1
                  simp at hfd
                  rw [if_pos rfl, if_pos (by by_cases ht : t = []; exact .inr (hfd ht); exact .inl ht)]
                · by_cases h4 : kd = 4
                  · subst h4
                    simp at hfd
                    rw [if_neg h1, if_pos rfl, if_pos (by simpa using hfd)]
                  · by_cases h5 : kd = 5
                    · subst h5
                      simp at hfd
                      rw [if_neg h1, if_neg h4, if_pos rfl, if_pos (by by_cases ht : t = []; exact .inr (hfd ht); exact .inl ht)]
                    · rw [if_neg h1, if_neg h4, if_neg h5]
              rw [HR.out]; unfold applyM; rw [HVD.out]
              injection he1 with e1 e2
              subst e2
              rw [if_pos (show (1 : Nat) ≠ 0 by decide), if_pos rfl]
              unfold appM
              rw [if_pos hfd]
            · rw [HR.out]; unfold applyM; rw [HVD.out, if_pos rfl]; unfold appM
              rw [if_neg hfd, if_neg hk6, if_neg (by rintro (h | h); exact hk2 h; exact hk3 h), ← hst])
          have HSTP := hide (rstep_any a2 n2 c2 d.dir (kd, s, t, dd) d.inodes.length W4 (H2.out.below HB4.out) (by omega) G.out.2.1.1 G.out.2.1.2 (dir_nn HDI.out))
          have hl2 := step_len d.dir (kd, s, t, dd) d.inodes.length
          rw [← hst] at HSTP hl2
          have hl9 : l2'.length ≤ 200000 := by have := HS.out.2.1; simp only [] at hl2; omega
          unfold oV at HSTP
          clear hst hl2 HR hk2 hk3 hk6
          go_wp2_with fail
          rw [HW4.out]
          clear HW4 d0 d1 d2 d3 o0 o1 o2 o3 y0 y1 y2 y3 l0 l2 f0 f2
          refine HSTP.out.mono ?_
          rintro e w5 ⟨v5, rfl, ho5, hb5⟩
          simp only [] at ho5
          obtain ⟨A5, p5, rfl, hp5, hr5⟩ := ownG_form ho5
          have F0 := hide (E0.out.below hb5)
          have F1 := hide (E1.out.below hb5)
          have F2 := hide (E2.out.below hb5)
          have FO1 := hide (ownG_below EO1.out hb5)
          have FO4 := hide (ownG_below EO4.out hb5)
          have FO5 := hide (own_baseG ho5 (show w.heap.size + 1 + 1 + 1 ≤ W4.heap.size by have := E2.out.lt; omega))
          have HAP5 := hide (show ∀ q, (Value.slice A5 l2'.length p5).ownBlock = some q → (Value.slice A1 d.inodes.length p1).ownBlock ≠ some q ∧ (Value.slice A4 d.ops.length p4).ownBlock ≠ some q from fun q hq => by
            have h5 := (ownG_lt ho5 hq).1
            exact ⟨fun h => by have := (ownG_lt EO1.out h).2; omega, fun h => by have := (ownG_lt EO4.out h).2; omega⟩)
          have HB5 := hide (HB4.out.trans (hb5.mono HB4.out.size))
          clear hb5 ho5 hr5 E0 E1 E2 EO1 EO4 HB4 HSTP
          have d0 : w5.cell? ⟨w.heap.size, 0, none⟩ = some _ := F0.out.cell rfl
          have d1 : w5.cell? ⟨w.heap.size, 1, none⟩ = some _ := F0.out.cell rfl
          have d2 : w5.cell? ⟨w.heap.size, 2, none⟩ = some _ := F0.out.cell rfl
          have d3 : w5.cell? ⟨w.heap.size, 3, none⟩ = some _ := F0.out.cell rfl
          have o0 : w5.cell? ⟨w.heap.size + 1, 0, none⟩ = some _ := F1.out.cell rfl
          have y0 : w5.cell? ⟨w.heap.size + 1 + 1, 0, none⟩ = some _ := F2.out.cell rfl
          have y1 : w5.cell? ⟨w.heap.size + 1 + 1, 1, none⟩ = some _ := F2.out.cell rfl
          have y2 : w5.cell? ⟨w.heap.size + 1 + 1, 2, none⟩ = some _ := F2.out.cell rfl
          have y3 : w5.cell? ⟨w.heap.size + 1 + 1, 3, none⟩ = some _ := F2.out.cell rfl
          have l2 := F2.out.lt
          have f2 := F2.out.fr
          by_cases her : er = 0
          · subst her
            have hr := HRA.out
            rw [if_neg (by decide)] at hr
            have HRR := hide hr
            clear hr HRA
            by_cases hk1 : kd = 1
            · subst hk1
              rw [if_pos rfl] at HRR
              go_wp2_with (at_builtin; go_loud (first | (refine wpList_append_rd _ rfl (.tmp 118) (.tmp 120) 23 rfl (w.heap.size + 1 + 1 + 1) 33 i0 _ 2 24 Try.underlying23 hi0 hz0 hz1 hz2 rfl (by omega) _ _ _ rfl (ownG_below FO1.out (bl_alloc (bl_refl _) _)) _ 1 _ ([(([] : List UInt8), (0 : Int))].flatMap encE) rfl rfl (rd_one _ (([] : List UInt8), (0 : Int)) _) (encE_one _) (by simp only [maxLen]; omega) (by omega) (by simp; omega) ?_; intro v7 w7 ho7 hg7 hat7; obtain ⟨A7, p7, e7, hp7, hr7⟩ := ownG_form ho7; obtain rfl := e7; rw [← List.flatMap_append] at ho7; have hq7 : ∀ q', (Value.slice A1 d.inodes.length p1).ownBlock = some q' → w.heap.size + 1 + 1 + 1 ≤ q' ∧ q' < w5.heap.size := (fun q' hq' => ownG_lt FO1.out hq'); have gr7 : ∀ g, g < w.heap.size + 1 + 1 + 1 → (Value.slice A1 d.inodes.length p1).ownBlock ≠ some g := (fun g hg hq' => (by have := (hq7 g hq').1; omega)); have R0 := hide ((F0.out.alloc _).grown hg7 (gr7 _ (by omega))); have R1 := hide ((F1.out.alloc _).grown hg7 (gr7 _ (by omega))); have R2 := hide ((F2.out.alloc _).grown hg7 (gr7 _ (by omega))); have RB := hide (bl_grown (bl_alloc HB5.out _) hg7 (fun q' hq' => by have := hq7 q' hq'; omega)); have RO4 := hide (ownG_grown (ownG_below FO4.out (bl_alloc (bl_refl _) _)) hg7 (fun q' hq' h2 => HAP.out q' h2 hq')); have RO5 := hide (ownG_grown (ownG_below FO5.out (bl_alloc (bl_refl _) _)) hg7 (fun q' hq' h2 => (HAP5.out q' hq').1 h2)); have P0 := hide (R0.out.set 0 (.slice A7 (d.inodes.length + 1) p7)); have P2 := hide (R2.out.setne (show w.heap.size + 1 + 1 ≠ w.heap.size by omega) 0 (.slice A7 (d.inodes.length + 1) p7)); have PB := hide (bl_setG RB.out (Nat.le_refl _) 0 (.slice A7 (d.inodes.length + 1) p7)); have PO1 := hide (ownG_setlt ho7 (show w.heap.size < w.heap.size + 1 + 1 + 1 by omega) 0 (.slice A7 (d.inodes.length + 1) p7)); have PO4 := hide (ownG_setlt RO4.out (show w.heap.size < w.heap.size + 1 + 1 + 1 by omega) 0 (.slice A7 (d.inodes.length + 1) p7)); have PO5 := hide (ownG_setlt RO5.out (show w.heap.size < w.heap.size + 1 + 1 + 1 by omega) 0 (.slice A7 (d.inodes.length + 1) p7)); have HAP1 := hide (show ∀ q, (Value.slice A7 (d.inodes.length + 1) p7).ownBlock = some q → (Value.slice A4 d.ops.length p4).ownBlock ≠ some q from fun q hq h4 => by (rcases hat7 with h | h; exact HAP.out q (h ▸ hq) h4; rw [h] at hq; have := (ownG_lt FO4.out h4).2; simp at hq; omega)); have t0 : w7.cell? ⟨w.heap.size, 0, none⟩ = some _ := R0.out.cell rfl; have t1 : w7.cell? ⟨w.heap.size, 1, none⟩ = some _ := R0.out.cell rfl; have t2 : w7.cell? ⟨w.heap.size, 2, none⟩ = some _ := R0.out.cell rfl; have t3 : w7.cell? ⟨w.heap.size, 3, none⟩ = some _ := R0.out.cell rfl; have ft := R0.out.fr; have lt0 := R0.out.lt; have s0 : w7.cell? ⟨w.heap.size + 1, 0, none⟩ = some _ := R1.out.cell rfl; have s1 : w7.cell? ⟨w.heap.size + 1, 1, none⟩ = some _ := R1.out.cell rfl; have s2 : w7.cell? ⟨w.heap.size + 1, 2, none⟩ = some _ := R1.out.cell rfl; have s3 : w7.cell? ⟨w.heap.size + 1, 3, none⟩ = some _ := R1.out.cell rfl; clear hg7 hat7 hq7 gr7 ho7 hr7) | (refine wpList_append_rd _ rfl (.tmp 125) (.tmp 127) 25 rfl (w.heap.size + 1 + 1 + 1) 48 j0 _ 4 56 Try.underlying25 hj0 hy0 hy1 hy2 rfl (by omega) _ _ _ rfl (ownG_below PO4.out (bl_alloc (bl_refl _) _)) _ 1 _ ([((1 : Int), s, t, dd)].flatMap encO) rfl rfl (rd_oneOG (by simp) ((1 : Int), s, t, dd) _) (encO_one _) (by simp only [maxLen]; omega) (by omega) (by have := P2.out.lt; simp at this ⊢; omega) ?_; intro v8 w8 ho8 hg8 hat8; obtain ⟨A8, p8, e8, hp8, hr8⟩ := ownG_form ho8; obtain rfl := e8; have hq8 : ∀ q', (Value.slice A4 d.ops.length p4).ownBlock = some q' → w.heap.size + 1 + 1 + 1 ≤ q' ∧ q' < w7.heap.size := (fun q' hq' => by simpa using ownG_lt PO4.out hq'); have gr8 : ∀ g, g < w.heap.size + 1 + 1 + 1 → (Value.slice A4 d.ops.length p4).ownBlock ≠ some g := (fun g hg hq' => (by have := (hq8 g hq').1; omega)); have Q0 := hide ((P0.out.alloc _).grown hg8 (gr8 _ (by omega))); have Q2 := hide ((P2.out.alloc _).grown hg8 (gr8 _ (by omega))); have QB := hide (bl_grown (bl_alloc PB.out _) hg8 (fun q' hq' => by have := hq8 q' hq'; omega)); have QO1 := hide (ownG_grown (ownG_below PO1.out (bl_alloc (bl_refl _) _)) hg8 (fun q' hq' h2 => HAP1.out q' hq' h2)); have QO5 := hide (ownG_grown (ownG_below PO5.out (bl_alloc (bl_refl _) _)) hg8 (fun q' hq' h2 => (HAP5.out q' hq').2 h2)); rw [← List.flatMap_append] at ho8; have QO8 := hide ho8; have z0 : w8.cell? ⟨w.heap.size, 0, none⟩ = some _ := Q0.out.cell rfl; have z1 : w8.cell? ⟨w.heap.size, 1, none⟩ = some _ := Q0.out.cell rfl; have z2 : w8.cell? ⟨w.heap.size, 2, none⟩ = some _ := Q0.out.cell rfl; have z3 : w8.cell? ⟨w.heap.size, 3, none⟩ = some _ := Q0.out.cell rfl; have x0 : w8.cell? ⟨w.heap.size + 1 + 1, 0, none⟩ = some _ := Q2.out.cell rfl; have x1 : w8.cell? ⟨w.heap.size + 1 + 1, 1, none⟩ = some _ := Q2.out.cell rfl; have x2 : w8.cell? ⟨w.heap.size + 1 + 1, 2, none⟩ = some _ := Q2.out.cell rfl; have x3 : w8.cell? ⟨w.heap.size + 1 + 1, 3, none⟩ = some _ := Q2.out.cell rfl; have lz := Q0.out.lt; have lx := Q2.out.lt; have fz := Q0.out.fr; have fx := Q2.out.fr; clear hg8 hat8 hq8 gr8 ho8 hr8)))
              have KO8 : World.ownsRow _ _ _ _ _ _ _ := ownG_set4 (ownG_setlt (ownG_setlt QO8.out (show w.heap.size < w.heap.size + 1 + 1 + 1 by omega) 1 (.slice A5 l2'.length p5)) (show w.heap.size < w.heap.size + 1 + 1 + 1 by omega) 3 (.slice A8 (d.ops.length + 1) p8)) (g := w.heap.size + 1 + 1) (own_ne QO8.out (by omega)) (.slice A7 (d.inodes.length + 1) p7) (.slice A5 l2'.length p5) (.slice a3 n3 c3) (.slice A8 (d.ops.length + 1) p8)
              have KO1 : World.ownsRow _ _ _ _ _ _ _ := ownG_set4 (ownG_setlt (ownG_setlt QO1.out (show w.heap.size < w.heap.size + 1 + 1 + 1 by omega) 1 (.slice A5 l2'.length p5)) (show w.heap.size < w.heap.size + 1 + 1 + 1 by omega) 3 (.slice A8 (d.ops.length + 1) p8)) (g := w.heap.size + 1 + 1) (own_ne QO1.out (by omega)) (.slice A7 (d.inodes.length + 1) p7) (.slice A5 l2'.length p5) (.slice a3 n3 c3) (.slice A8 (d.ops.length + 1) p8)
              have KO5 : World.ownsRow _ _ _ _ _ _ _ := ownG_set4 (ownG_setlt (ownG_setlt QO5.out (show w.heap.size < w.heap.size + 1 + 1 + 1 by omega) 1 (.slice A5 l2'.length p5)) (show w.heap.size < w.heap.size + 1 + 1 + 1 by omega) 3 (.slice A8 (d.ops.length + 1) p8)) (g := w.heap.size + 1 + 1) (own_ne QO5.out (by omega)) (.slice A7 (d.inodes.length + 1) p7) (.slice A5 l2'.length p5) (.slice a3 n3 c3) (.slice A8 (d.ops.length + 1) p8)
              have hbF := bl_set4 (bl_setG (bl_setG QB.out (show w.heap.size ≤ w.heap.size by omega) 1 (.slice A5 l2'.length p5)) (show w.heap.size ≤ w.heap.size by omega) 3 (.slice A8 (d.ops.length + 1) p8)) (show w.heap.size ≤ w.heap.size + 1 + 1 by omega) (.slice A7 (d.inodes.length + 1) p7) (.slice A5 l2'.length p5) (.slice a3 n3 c3) (.slice A8 (d.ops.length + 1) p8)
              obtain ⟨k5, k6⟩ := own_RE2 KO5 rfl
              refine bodyPost_ret (results_cell_tmp_row Try.results23 _ _ (w.heap.size + 1 + 1) 27 _ _ rfl (((Q2.out.setne (by omega) _ _).setne (by omega) _ _).set4 _ _ _ _) Try.underlying27 rfl (by kernel_rfl)) rfl ?_
              exact .ok HRR.out rfl (isD_own KO1 (by simp) k5 (H3.out.below hbF) KO8 (by simp) k6 G.out.2.2.1) hbF
            · have hk1' : (kd == 1) = false := by simpa using hk1
              rw [if_neg hk1] at HRR
              clear hk1
              have P0 := F0
              have P2 := F2
              have PO1 := FO1
              have PO4 := FO4
              have PO5 := FO5
              have PB := HB5
              have o1 : w5.cell? ⟨w.heap.size + 1, 1, none⟩ = some _ := F1.out.cell rfl
              have o2 : w5.cell? ⟨w.heap.size + 1, 2, none⟩ = some _ := F1.out.cell rfl
              have o3 : w5.cell? ⟨w.heap.size + 1, 3, none⟩ = some _ := F1.out.cell rfl
              have HAP1 := hide (show ∀ q, (Value.slice A1 d.inodes.length p1).ownBlock = some q → (Value.slice A4 d.ops.length p4).ownBlock ≠ some q from HAP.out)
              go_wp2_with (at_builtin; go_loud (refine wpList_append_rd _ rfl (.tmp 125) (.tmp 127) 25 rfl (w.heap.size + 1 + 1 + 1) 48 j0 _ 4 56 Try.underlying25 hj0 hy0 hy1 hy2 rfl (by omega) _ _ _ rfl (ownG_below PO4.out (bl_alloc (bl_refl _) _)) _ 1 _ ([(kd, s, t, dd)].flatMap encO) rfl rfl (rd_oneOG (by simp) (kd, s, t, dd) _) (encO_one _) (by simp only [maxLen]; omega) (by omega) (by have := P2.out.lt; simp at this ⊢; omega) ?_; intro v8 w8 ho8 hg8 hat8; obtain ⟨A8, p8, e8, hp8, hr8⟩ := ownG_form ho8; obtain rfl := e8; have hq8 : ∀ q', (Value.slice A4 d.ops.length p4).ownBlock = some q' → w.heap.size + 1 + 1 + 1 ≤ q' ∧ q' < w5.heap.size := (fun q' hq' => ownG_lt PO4.out hq'); have gr8 : ∀ g, g < w.heap.size + 1 + 1 + 1 → (Value.slice A4 d.ops.length p4).ownBlock ≠ some g := (fun g hg hq' => (by have := (hq8 g hq').1; omega)); have Q0 := hide ((P0.out.alloc _).grown hg8 (gr8 _ (by omega))); have Q2 := hide ((P2.out.alloc _).grown hg8 (gr8 _ (by omega))); have QB := hide (bl_grown (bl_alloc PB.out _) hg8 (fun q' hq' => by have := hq8 q' hq'; omega)); have QO1 := hide (ownG_grown (ownG_below PO1.out (bl_alloc (bl_refl _) _)) hg8 (fun q' hq' h2 => HAP1.out q' hq' h2)); have QO5 := hide (ownG_grown (ownG_below PO5.out (bl_alloc (bl_refl _) _)) hg8 (fun q' hq' h2 => (HAP5.out q' hq').2 h2)); rw [← List.flatMap_append] at ho8; have QO8 := hide ho8; have z0 : w8.cell? ⟨w.heap.size, 0, none⟩ = some _ := Q0.out.cell rfl; have z1 : w8.cell? ⟨w.heap.size, 1, none⟩ = some _ := Q0.out.cell rfl; have z2 : w8.cell? ⟨w.heap.size, 2, none⟩ = some _ := Q0.out.cell rfl; have z3 : w8.cell? ⟨w.heap.size, 3, none⟩ = some _ := Q0.out.cell rfl; have x0 : w8.cell? ⟨w.heap.size + 1 + 1, 0, none⟩ = some _ := Q2.out.cell rfl; have x1 : w8.cell? ⟨w.heap.size + 1 + 1, 1, none⟩ = some _ := Q2.out.cell rfl; have x2 : w8.cell? ⟨w.heap.size + 1 + 1, 2, none⟩ = some _ := Q2.out.cell rfl; have x3 : w8.cell? ⟨w.heap.size + 1 + 1, 3, none⟩ = some _ := Q2.out.cell rfl; have lz := Q0.out.lt; have lx := Q2.out.lt; have fz := Q0.out.fr; have fx := Q2.out.fr; clear hg8 hat8 hq8 gr8 ho8 hr8))
              have KO8 : World.ownsRow _ _ _ _ _ _ _ := ownG_set4 (ownG_setlt (ownG_setlt QO8.out (show w.heap.size < w.heap.size + 1 + 1 + 1 by omega) 1 (.slice A5 l2'.length p5)) (show w.heap.size < w.heap.size + 1 + 1 + 1 by omega) 3 (.slice A8 (d.ops.length + 1) p8)) (g := w.heap.size + 1 + 1) (own_ne QO8.out (by omega)) (.slice A1 d.inodes.length p1) (.slice A5 l2'.length p5) (.slice a3 n3 c3) (.slice A8 (d.ops.length + 1) p8)
              have KO1 : World.ownsRow _ _ _ _ _ _ _ := ownG_set4 (ownG_setlt (ownG_setlt QO1.out (show w.heap.size < w.heap.size + 1 + 1 + 1 by omega) 1 (.slice A5 l2'.length p5)) (show w.heap.size < w.heap.size + 1 + 1 + 1 by omega) 3 (.slice A8 (d.ops.length + 1) p8)) (g := w.heap.size + 1 + 1) (own_ne QO1.out (by omega)) (.slice A1 d.inodes.length p1) (.slice A5 l2'.length p5) (.slice a3 n3 c3) (.slice A8 (d.ops.length + 1) p8)
              have KO5 : World.ownsRow _ _ _ _ _ _ _ := ownG_set4 (ownG_setlt (ownG_setlt QO5.out (show w.heap.size < w.heap.size + 1 + 1 + 1 by omega) 1 (.slice A5 l2'.length p5)) (show w.heap.size < w.heap.size + 1 + 1 + 1 by omega) 3 (.slice A8 (d.ops.length + 1) p8)) (g := w.heap.size + 1 + 1) (own_ne QO5.out (by omega)) (.slice A1 d.inodes.length p1) (.slice A5 l2'.length p5) (.slice a3 n3 c3) (.slice A8 (d.ops.length + 1) p8)
              have hbF := bl_set4 (bl_setG (bl_setG QB.out (show w.heap.size ≤ w.heap.size by omega) 1 (.slice A5 l2'.length p5)) (show w.heap.size ≤ w.heap.size by omega) 3 (.slice A8 (d.ops.length + 1) p8)) (show w.heap.size ≤ w.heap.size + 1 + 1 by omega) (.slice A1 d.inodes.length p1) (.slice A5 l2'.length p5) (.slice a3 n3 c3) (.slice A8 (d.ops.length + 1) p8)
              obtain ⟨k5, k6⟩ := own_RE2 KO5 rfl
              refine bodyPost_ret (results_cell_tmp_row Try.results23 _ _ (w.heap.size + 1 + 1) 27 _ _ rfl (((Q2.out.setne (by omega) _ _).setne (by omega) _ _).set4 _ _ _ _) Try.underlying27 rfl (by kernel_rfl)) rfl ?_
              exact .ok HRR.out rfl (isD_own KO1 (by simp) k5 (H3.out.below hbF) KO8 (by simp) k6 G.out.2.2.1) hbF
          · have hr : r = (.nil, er) := by rw [HRA.out, if_pos her]
            have HRR := hide hr
            obtain ⟨ei, hei⟩ : ∃ ei : Int, ei = (er : Int) := ⟨_, rfl⟩
            have h0i : (ei == 0) = false := by rw [beq_eq_false_iff_ne]; omega
            have h0j : (ei != 0) = true := by simp only [bne, h0i]; rfl
            have HEI := hide hei
            rw [← hei]
            clear hei hr her HRA
            go_wp2
            refine bodyPost_ret (results_cell_tmp_row Try.results23 _ _ (w.heap.size + 1 + 1) 27 _ _ rfl (F2.out.set4 _ _ _ _) Try.underlying27 rfl (by kernel_rfl)) rfl ?_
            exact .no HRR.out (by rw [← HEI.out]; rfl) (bl_set4 HB5.out (by omega) _ _ _ _)
end Go.Proofs.Ytjpmfiicbokdcaa
